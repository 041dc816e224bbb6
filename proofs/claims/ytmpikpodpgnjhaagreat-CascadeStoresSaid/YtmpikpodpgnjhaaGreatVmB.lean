/- The value machine, 11: names do not come from nowhere. -/
import Derived.Test.YtmpikpodpgnjhaaGreatVmA
namespace Go.Vm
set_option linter.all false
def V.sC:V→Bool
 |.int .. | .bool .. | .str .. | .bW | .ft | .fu | .fw | .fn .. | .slice none _ []=>true
 |_=>false
def V.bare:V→Bool
 |.agg cs=>cs.all V.sC
 |v=>v.sC
def bj.clean:bj→Bool
 |.t _=>true
 |.c v=>v.bare
def VO.clean:VO→Bool
 |.mv x | .box _ x | .rM _ x | .load _ _ x | .rY x | .un _ x | .conv _ x | .r0 _ x | .field _ _ x | .len x | .r7 x | .tq x | .grow _ _ x | .ext x _=>x.clean
 |.tu _ _ _ x=>x.clean
 |.qJ _ x | .tr _ x=>x.clean
 |.vt _=>true
 |.pd f args _=>f.clean&&args.all fun p=>p.2.2.clean
 |.rW _ x y=>x.clean&&y.clean
 |.pick a b c=>a.clean&&b.clean&&c.clean
 |.obj _ cs=>cs.all V.sC
 |.rP _ _ | .rQ=>true
 |.tp _ _ zero _ x k=>zero.bare&&x.clean&&k.clean
 |.rT _ _ _ x k y=>x.clean&&k.clean&&y.clean
 |.build zero ps=>zero.all V.sC&&ps.all fun p=>p.2.2.clean
 |.lit _ _ _ _ ps=>ps.all fun p=>p.2.clean
 |.r9 _ x y z=>x.clean&&y.clean&&z.clean
 |.store _ _ x y | .bin _ x y | .beq _ x y | .iR _ _ x y | .nA _ _ x y | .idx _ _ _ x y | .app _ _ _ _ x y | .qK _ _ _ x y | .rU _ _ x y | .mm _ x y=>x.clean&&y.clean
 |.call _ f args _ | .own f args _ _ | .pe f args _ | .pc f args=>f.clean&&args.all fun p=>p.2.clean
 |.qL _ zero x=>x.clean&&zero.all V.sC
 |.tv _ x lo hi=>x.clean&&(lo.all bj.clean)&&(hi.all bj.clean)
 |.tw _ cap=>cap.all bj.clean
theorem Cn{v:V}(h:v.sC=true)(d:Nat):v.cj d=false:=by
 cases v<;>simp_all[V.sC,V.cj];rename_i t _ _;cases t<;>simp_all[V.sC,V.cj]
theorem I4{v:V}(h:v.bare=true)(d:Nat):v.ca d=false:=by
 cases v with
 |agg cs =>
  simp only[V.bare,List.all_eq_true]at h;simp only[V.ca,V.dg,List.any_eq_false];exact fun x hx=>by simp[Cn (h x hx) d]
 |_=>apply qP;apply Cn;exact h
theorem OO{v:V}{d:Nat}(hc:v.cz=true)(h:v.ca d=false):v.cj d=false:=by
 cases v<;>simp_all[V.cz,V.ca,V.dg,V.cj]
section
variable {P:Program} {E:Entry} {g g':Gh} {S S':St} {a:Act} {w w':World} {d:Nat}
theorem m6(hn:S.ez d){x:bj}(hc:x.clean=true){v:V}(hv:S.ev x=some v):v.ca d=false:=by
 cases x with
 |t s=>exact hn.env s v hv
 |c u=>simp only[St.ev,Option.some.injEq]at hv;subst hv;exact I4 hc d
theorem ed(hn:S.ez d){dst:Option Nat}{v:V}(hv:v.ca d=false):(S.put dst v).ez d:=by
 cases dst with
 |none=>exact hn
 |some k =>
  refine⟨fun s u hs=>?_,hn.aV,hn.obj,hn.tok⟩;rw[z6,dF]at hs;split at hs
  ·cases hs;exact hv
  ·exact hn.env s u hs
theorem tM(hn:S.ez d){id:Nat}(ch:id≠d){cs:List V}(hc:∀v∈cs,v.cj d=false):({ S with aV:=(id,cs)::S.aV }:St).ez d:=by
 refine⟨hn.env,fun i dR hi=>?_,?_,hn.tok⟩
 ·rw[dF]at hi
  split at hi
  ·cases hi;exact hc
  ·exact hn.aV i dR hi
 ·rw[dF,if_neg ch];exact hn.obj
theorem AB(hn:S.ez d){f k:Nat}(ch:f≠d):({ S with a7:=(f,k)::S.a7 }:St).ez d :=
 ⟨hn.env,hn.aV,hn.obj,by rw[dF,if_neg ch];exact hn.tok⟩
theorem uW(hn:S.ez d){G:List aP}:({ S with ay:=G }:St).ez d:=⟨hn.env,hn.aV,hn.obj,hn.tok⟩
theorem I5{v:V}(h:v.ca d=false)(hc:∀u∈v.cells,u.cz=true):∀u∈v.cells,u.cj d=false:=fun u hu=>OO (hc u hu) (NZ h u hu)
theorem I6{sz:Option Nat}{cs:List V}{off:Nat}{v:V}(h:loadAt sz cs off=some v)(hc:∀u∈cs,u.cj d=false):v.ca d=false:=by
 unfold loadAt at h;split at h
 ·exact qP (hc v (List.mem_of_getElem? h))
 ·rename_i n
  cases hb:Nat.ble (off+n) cs.length with
  |false=>simp[hb]at h
  |true =>
   simp only[hb,cond_true,Option.some.injEq]at h;subst h;simp only[V.ca,V.dg,List.any_eq_false];exact fun u hu=>by simp[hc u (List.mem_of_mem_drop (List.mem_of_mem_take hu))]
theorem Zz{v:V}(h:v.plain=true):v.cj d=false:=by
 cases v<;>simp_all[V.plain,V.cj];rename_i t _ _;cases t<;>simp_all[V.plain,V.cj]
theorem ZA(hR:R E g S a w)(hn:S.ez d){p:V}{x:Value}(hr:aY (S.cx g w) p x){cs:List V}{off:Nat}(hc:S.mR p=some (cs,off)):∀u∈cs,u.cj d=false:=by
 unfold St.mR at hc;split at hc
 ·split at hc
  ·rename_i i f q dR ho
   cases hc;exact hn.aV i _ ho
  ·cases hc
 ·split at hc
  ·rename_i i f q dR ho
   cases hc;rcases hR.ay.obj i _ ho with h0 | ⟨_,hm,c,et,hh,hl,hj⟩
   ·cases h0;intro u hu;simp at hu
   intro u hu;obtain⟨j,sD⟩:=List.mem_iff_getElem?.1 hu;have br:j<c.size:=Nat.lt_of_lt_of_le (eC sD) hl;obtain⟨h1,h2,_⟩:=hj j u c[j] sD (by simp[br])
   exact OO h1 (h2 d)
  ·cases hc
 ·cases hc
  cases hr with
  |plain h _=>cases h
  |eF row _ b o ys hb h1 h2 hp hm =>
   intro u hu;obtain⟨j,sD⟩:=List.mem_iff_getElem?.1 hu;exact Zz (hp j u sD)
 ·cases hc
theorem OP{cs vs:List V}{off:Nat}{u:V}(h:u∈iC cs off vs):u∈cs∨u∈vs:=by
 obtain⟨j,hj⟩:=List.mem_iff_getElem?.1 h;rw[Ae]at hj;split at hj
 ·exact .inr (List.mem_of_getElem? hj)
 ·exact .inl (List.mem_of_getElem? hj)
theorem OQ(hn:S.ez d):∀{ps:List (Nat×Nat×bj)} {cs dR:List V},(∀p∈ps,p.2.2.clean=true)→pf S ps cs=some dR→(∀u∈cs,u.cj d=false)→∀u∈dR,u.cj d=false
 |[],cs,dR,_,h,hc=>by simp only[pf,Option.some.injEq]at h;subst h;exact hc
 |(off,n,x)::ps,cs,dR,c9,h,hc=>by
  simp only[pf]at h;split at h
  ·rename_i v hv
   cases hb:(v.cells.length==n&&Nat.ble (off+n) cs.length&&v.cells.all V.cz) with
   |false=>simp[hb]at h
   |true =>
    simp only[hb,cond_true]at h;simp only[Bool.and_eq_true,List.all_eq_true]at hb;refine OQ hn (fun p hp=>c9 p (List.mem_cons_of_mem _ hp)) h (fun u hu=>?_);rcases OP hu with h1|h1
    ·exact hc u h1
    ·exact I5 (m6 hn (c9 (off,n,x) List.mem_cons_self) hv) hb.2 u h1
  ·cases h
theorem OR(hR:R E g S a w)(hn:S.ez d){x:bj}(c9:x.clean=true){p:V}(hv:S.ev x=some p){cs:List V}{off:Nat}(hc:S.mR p=some (cs,off)):∀u∈cs,u.cj d=false:=by
 cases x with
 |t s =>
  obtain⟨y,_,hr⟩:=hR.env s p hv;exact ZA hR hn hr hc
 |c v =>
  simp only[St.ev,Option.some.injEq]at hv;subst hv;cases v<;>simp_all[bj.clean,V.bare,V.sC,St.mR]
theorem I7{r:V}(h:∀d,(xh r).ca d=false){reg:List (Nat×Nat)}{d:Nat}(hd:d∉yI reg):(recv reg r).1.ca d=false∧look d (recv reg r).2=none:=by
 rw[E1];have tN:∀p f,look p reg=some f→(f==d)=false:=fun p f hp=>by
  simp only[beq_eq_false_iff_ne,ne_eq];intro e;subst e;exact hd (List.mem_map.2 ⟨_,sy hp,rfl⟩)
 have tO:∀u∈(cH reg 0 r.fj).1,(∃n es f,u=.slice (some f) n es∧(f==d)=false)∨∃v∈r.fj,u=strip v:=fun u hu=>by
  obtain⟨k,hk⟩:=List.mem_iff_getElem?.1 hu;obtain⟨v,hv,hc⟩:=Cg reg _ 0 k u hk;rcases hc with⟨t,n,es,f,rfl,h2,rfl⟩ | rfl
  ·exact .inl ⟨n,es,f,rfl,tN _ f h2⟩
  ·exact .inr ⟨v,List.mem_of_getElem? hv,rfl⟩
 refine⟨?_,?_⟩
 ·have hs:=h d
  unfold xh at hs;have single:r.fj=[r]→(∀us,qT r us=us.headD .undef)→(qT r (cH reg 0 r.fj).1).ca d=false:=fun e1 e3=>by
   rw[e3]at hs ⊢;rw[e1]at hs tO ⊢;have kZ:(cH reg 0 [r]).1.length=1:=IM reg [r] 0
   match yK:(cH reg 0 [r]).1,kZ with
   |[u],_ =>
    rw[yK]at tO;rcases tO u List.mem_cons_self with⟨n,es,f,rfl,hf⟩ | ⟨v,hv,rfl⟩
    ·exact hf
    ·simp only[List.mem_singleton]at hv
     subst hv;exact hs
  cases r with
  |tuple vs =>
   simp only[qT,V.ca,V.fj,List.any_eq_false,List.mem_map]at hs ⊢;intro u hu;rcases tO u hu with⟨n,es,f,rfl,hf⟩ | ⟨v,hv,rfl⟩
   ·simp[V.dg,V.cj,hf]
   ·exact hs (strip v) ⟨v,hv,rfl⟩
  |agg vs =>
   simp only[qT,V.ca,V.dg,V.fj,List.any_eq_false,List.mem_map]at hs ⊢;intro u hu;rcases tO u hu with⟨n,es,f,rfl,hf⟩ | ⟨v,hv,rfl⟩
   ·simp[V.cj,hf]
   ·exact hs (strip v) ⟨v,hv,rfl⟩
  |_=>exact single rfl (fun _=>rfl)
 ·cases hl:look d (cH reg 0 r.fj).2 with
  |none=>rfl
  |some k =>
   obtain⟨p,t,n,es,_,h2,_⟩:=Ap reg _ 0 d k (sy hl);exact absurd (List.mem_map.2 ⟨_,sy h2,rfl⟩) hd
theorem OS{v:V}(h:v.ca d=false):v.kh.ca d=false:=by
 have h0:∀u:V,u.cj d=false→u.jF.cj d=false:=fun u hu=>by
  cases u<;>first|exact hu|rfl
 cases v with
 |agg cs =>
  simp only[V.kh,V.ca,V.dg,List.any_eq_false,List.mem_map,forall_exists_index,and_imp,forall_apply_eq_imp_iff₂]at h ⊢;intro u hu;have:=h0 u (by simpa using h u hu)
  simp[this]
 |eY=>rfl
 |_=>exact h
theorem ZB{vo:VO}{C:bm}{dst:Option Nat}(c9:vo.clean=true)
  (hC:∀f args G r G',C f args G=some (r,G')→∀d,(xh r).ca d=false)
  (hR:R E g S a w) (hn:S.ez d) (hd:d∉vo.names) (ah:VO.run C dst S vo=some S'):S'.ez d:=by
 cases vo with
 |mv x =>
  simp only[VO.run]at ah;split at ah
  ·rename_i v hv;cases ah;exact ed hn (m6 hn c9 hv)
  ·cases ah
 |pick c p q =>
  simp only[VO.clean,Bool.and_eq_true]at c9;simp only[VO.run]at ah;split at ah
  ·rename_i t ht
   split at ah
   ·rename_i v hv
    cases ah;cases t
    ·exact ed hn (m6 hn c9.2 hv)
    ·exact ed hn (m6 hn c9.1.2 hv)
   ·cases ah
  ·cases ah
 |obj id cells =>
  simp only[VO.clean,List.all_eq_true]at c9;simp only[VO.names,List.mem_singleton]at hd;simp only[VO.run]at ah;cases ah;exact ed (tM hn (fun e=>hd e.symm) fun v hv=>Cn (c9 v hv) d) (by simp[V.ca,V.dg,V.cj];exact fun e=>hd e.symm)
 |box id x =>
  simp only[VO.names,List.mem_singleton]at hd;simp only[VO.run]at ah;split at ah
  ·rename_i v hv
   cases hc:v.cells.all V.cz with
   |false=>simp[hc]at ah
   |true =>
    simp only[hc,cond_true]at ah;simp only[List.all_eq_true]at hc;cases ah;exact ed (tM hn (fun e=>hd e.symm) (I5 (m6 hn c9 hv) hc)) (by simp[V.ca,V.dg,V.cj];exact fun e=>hd e.symm)
  ·cases ah
 |rM sh x =>
  simp only[VO.run]at ah;split at ah
  ·split at ah
   ·cases ah;exact ed (uW hn) rfl
   ·cases ah
  ·cases ah
 |rP sh zero =>
  simp only[VO.run]at ah;split at ah
  ·cases ah;exact ed (uW hn) rfl
  ·cases ah
 |rQ =>
  simp only[VO.run]at ah;cases ah;exact ed (uW hn) rfl
 |tp ag ks zero ok x k =>
  simp only[VO.clean,Bool.and_eq_true]at c9;simp only[VO.run]at ah;split at ah
  ·rename_i i kv hx pr
   split at ah
   ·rename_i es b mF hb
    have OT:∀v b,(∀d,v.ca d=false)→v.dg d=false→(bif ok then V.tuple [v,.bool b] else v).ca d=false:=fun v b hv hc=>by
     cases ok
     ·exact hv d
     ·simp only[cond_true,V.ca,List.any_cons,List.any_nil,Bool.or_false,Bool.or_eq_false_iff]
      exact⟨hc,rfl⟩
    split at ah
    ·rename_i j v hf
     cases ah;have E7:∀(es:List (V×V)) i,lG ag ks kv es i=some (some (j,v))→∃q,(q,v)∈es:=by
      intro es;induction es with
      |nil=>intro i h;simp[lG]at h
      |cons p es ih =>
       obtain⟨q,u⟩:=p;intro i h;simp only[lG]at h;split at h
       ·simp at h;obtain⟨_,rfl⟩:=h;exact⟨q,by simp⟩
       ·obtain⟨q',h'⟩:=ih _ h;exact⟨q',by simp[h']⟩
       ·cases h
     obtain⟨q,hq⟩:=E7 es 0 hf;obtain⟨n,vP⟩:=List.mem_iff_getElem?.1 hq;obtain⟨_,_,c,ck,hh,hl,_,hj⟩:=E8 hR mF;have br:=eC vP;obtain⟨_,hv,_,_⟩:=hj n (q,v) c[n] vP (by simp)
     exact ed hn (OT _ _ (fun d=>tC (hv d)) (hv d))
    ·cases ah
     refine ed hn (OT _ _ (fun d=>I4 c9.1.1 d) ?_);have:=I4 c9.1.1 d;have AD:=c9.1.1;cases zero<;>first|(simpa [V.ca] using this)|simp[V.bare,V.sC]at AD
    ·cases ah
   ·cases ah
  ·cases ah
 |rT ag ks sh x k y =>
  simp only[VO.run]at ah;split at ah
  ·split at ah
   ·split at ah
    ·cases ah;exact uW hn
    ·cases ah;exact uW hn
    ·cases ah
   ·cases ah
  ·cases ah
 |build zero ps =>
  simp only[VO.clean,Bool.and_eq_true,List.all_eq_true]at c9;simp only[VO.run]at ah;split at ah
  ·rename_i cs hf
   cases ah;refine ed hn ?_;have:=OQ hn c9.2 hf (fun u hu=>Cn (c9.1 u hu) d);simp only[V.ca,V.dg,List.any_eq_false];exact fun u hu=>by simp[this u hu]
  ·cases ah
 |lit tok sh zero len ps =>
  simp only[VO.run]at ah;split at ah
  ·split at ah
   ·rename_i f
    simp only[VO.names,List.mem_singleton]at hd;cases ah;exact ed (AB hn (fun e=>hd e.symm)) (by simp[V.ca,V.dg,V.cj];exact fun e=>hd e.symm)
   ·cases ah;exact ed hn rfl
  ·cases ah
 |load root sz x =>
  simp only[VO.run]at ah;split at ah
  ·rename_i u hu
   cases fy:root.fits u with
   |false=>simp[fy]at ah
   |true =>
    simp only[fy,cond_true]at ah;split at ah
    ·rename_i cs off hc
     split at ah
     ·rename_i v hv
      cases ah;refine ed hn ?_;have:=I6 hv (OR hR hn c9 hu hc);cases root
      ·exact this
      ·exact OS this
      ·exact this
     ·cases ah
    ·cases ah
  ·cases ah
 |store root sh x y =>
  simp only[VO.clean,Bool.and_eq_true]at c9;simp only[VO.run]at ah;cases fy:S.fits root x with
  |false=>simp[fy]at ah
  |true =>
  simp only[fy,cond_true]at ah;split at ah
  ·rename_i id off v hx hy
   split at ah
   ·rename_i cs ho
    cases hc:(v.cells.length==sh.length&&Nat.ble (off+sh.length) cs.length&&v.cells.all V.cz&&Nat.blt 0 sh.length) with
    |false=>simp[hc]at ah
    |true =>
     simp only[hc,cond_true]at ah;simp only[Bool.and_eq_true,List.all_eq_true]at hc;cases ah;have l7:id≠d:=fun e=>by have:=m6 hn c9.1 hx;simp[V.ca,V.dg,V.cj,e]at this
     refine tM hn l7 fun u hu=>?_;rcases OP hu with h|h
     ·exact hn.aV id cs ho u h
     ·exact I5 (m6 hn c9.2 hy) hc.1.2 u h
   ·cases ah
  ·rename_i i off v hx hy
   split at ah
   ·rename_i cs ho
    split at ah
    ·rename_i vs hg
     cases hc:(Nat.ble (off+vs.length) cs.length&&Nat.blt 0 vs.length) with
     |false=>simp[hc]at ah
     |true=>simp only[hc,cond_true]at ah;cases ah;exact uW hn
    ·cases ah
   ·cases ah
  ·cases ah
 |vt n =>
  simp only[VO.run]at ah;cases ah;exact ed hn rfl
 |pd f args ids =>
  simp only[VO.run]at ah;split at ah
  ·split at ah
   ·rename_i r G' hc
    cases hs:r.nW with
    |false=>rw[hs]at ah;cases ah
    |true =>
     rw[hs]at ah;cases ah;have h0:∀v:V,v.sc=true→v.cj d=false∧v.dg d=false∧v.ca d=false:=fun v hv=>by
      cases v<;>simp[V.sc]at hv<;>exact⟨rfl,rfl,rfl⟩
     refine ed hn ?_;cases r with
     |tuple vs =>
      simp only[V.nW,List.all_eq_true]at hs;simp only[V.ca,List.any_eq_false];exact fun v hv=>by simp[(h0 v (hs v hv)).2.1]
     |agg vs =>
      simp only[V.nW,List.all_eq_true]at hs;simp only[V.ca,V.dg,List.any_eq_false];exact fun v hv=>by simp[(h0 v (hs v hv)).1]
     |_=>refine(h0 _ ?_).2.2;exact hs
   ·cases ah
  ·cases ah
 |tr neg x =>
  simp only[VO.run]at ah;split at ah<;>first|(cases ah;done)|(cases ah;exact ed hn rfl)
 |qJ bT x =>
  simp only[VO.names,List.mem_singleton]at hd;simp only[VO.run]at ah;split at ah
  ·rename_i u hu
   split at ah
   ·rename_i v ts G ht
    cases ah;unfold St.take at ht;split at ht
    ·rename_i id off
     split at ht
     ·rename_i cs ho
      split at ht
      ·cases ht
       exact ed (uW (AB hn (fun e=>hd e.symm))) (by simp[V.ca,V.dg,V.cj];exact fun e=>hd e.symm)
      ·rename_i z _ hz
       cases ht;have hm:=OR (off:=off) hR hn c9 hu (cs:=cs) (by simp[St.mR,ho])
       exact ed (S:={ S with a7:=[]++S.a7,ay:=S.ay }) ⟨hn.env,hn.aV,hn.obj,hn.tok⟩ (OS (qP (hm z (List.mem_of_getElem? hz))))
      ·cases ht
     ·cases ht
    ·cases ht
   ·cases ah
  ·cases ah
 |rW bT x y =>
  simp only[VO.run]at ah;split at ah
  ·split at ah
   ·rename_i ts G hg
    cases ah;unfold St.uD at hg;split at hg
    ·rename_i id off f n es
     split at hg
     ·rename_i k _ hk
      have ch:bT≠d:=fun e=>by
       rw[e,hn.tok]at hk;generalize (_==d)=q at hk;cases q<;>cases hk
      rcases Bool.eq_false_or_eq_true (k==_&&Nat.blt _ _) with hc|hc
      ·rw[hc]at hg
       cases hg;exact uW (AB hn ch)
      ·rw[hc]at hg;cases hg
     ·cases hg
    ·cases hg
   ·cases ah
  ·cases ah
 |rY x =>
  simp only[VO.run]at ah;split at ah<;>first|(cases ah;done)|skip
  all_goals
   rename_i hv;cases ah;exact ed hn (m6 hn c9 hv)
 |bin op x y =>
  simp only[VO.run]at ah;split at ah
  ·split at ah
   ·rename_i v hv
    cases ah;refine ed hn ?_;unfold V.bin at hv;split at hv
    ·rename_i k m k' n _ _
     cases hk:decide (k=k') with
     |false=>simp[hk]at hv
     |true =>
      simp only[hk,cond_true]at hv;unfold BN at hv;split at hv<;>(try split at hv)<;>cases hv<;>rfl
    ·cases hv
   ·cases ah
  ·cases ah
 |beq neg x y =>
  simp only[VO.run]at ah;split at ah
  ·cases ah;exact ed hn rfl
  ·cases ah
 |iR neg ks x y =>
  simp only[VO.run]at ah;split at ah
  ·split at ah
   ·rename_i v hv
    cases ah;refine ed hn ?_;unfold V.iR at hv;split at hv
    ·rename_i cs ds _ _
     cases hc:(cs.length==ks.length&&ds.length==ks.length) with
     |false=>simp[hc]at hv
     |true =>
      simp only[hc,cond_true]at hv;split at hv<;>cases hv<;>rfl
    ·cases hv
   ·cases ah
  ·cases ah
 |un op x =>
  simp only[VO.run]at ah;split at ah
  ·split at ah
   ·rename_i v hv
    cases ah;refine ed hn ?_;unfold V.un at hv;split at hv<;>(try split at hv)<;>cases hv<;>rfl
   ·cases ah
  ·cases ah
 |conv k x =>
  simp only[VO.run]at ah;split at ah
  ·cases ah;exact ed hn rfl
  ·cases ah
 |r0 off x =>
  simp only[VO.run]at ah;split at ah<;>first|(cases ah;done)|skip
  all_goals
   rename_i hv;have:=m6 hn c9 hv;cases ah;exact ed hn this
 |nA arr sz x i =>
  simp only[VO.clean,Bool.and_eq_true]at c9;cases arr with
  |some n =>
   simp only[VO.run]at ah;split at ah
   ·rename_i u k m hu hm
    cases hc:(decide (0≤m)&&decide (m<(n:Int))) with
    |false=>simp[hc]at ah
    |true =>
     simp only[hc,cond_true]at ah;have:=m6 hn c9.1 hu;split at ah<;>first|(cases ah;done)|skip
     all_goals
      cases ah;exact ed hn this
   ·cases ah
  |none =>
   simp only[VO.run]at ah;split at ah
   ·rename_i tk m es k z hu hm
    cases hc:(decide (0≤z)&&(m==sz)) with
    |false=>simp[hc]at ah
    |true =>
     simp only[hc,cond_true]at ah;split at ah
     ·cases ah;exact ed hn rfl
     ·cases ah
   ·rename_i id off len k z hu hm
    cases hc:(decide (0≤z)&&decide (z<(len:Int))&&(off==sz)) with
    |false=>simp[hc]at ah
    |true =>
     simp only[hc,cond_true]at ah;have:=m6 hn c9.1 hu;cases ah;exact ed hn this
   ·rename_i id off len k z hu hm
    cases hc:(decide (0≤z)&&decide (z<(len:Int))&&(off==sz)) with
    |false=>simp[hc]at ah
    |true =>
     simp only[hc,cond_true]at ah;cases ah;exact ed hn rfl
   ·cases ah
 |idx n sz ag x i =>
  simp only[VO.clean,Bool.and_eq_true]at c9;simp only[VO.run]at ah;split at ah
  ·rename_i cs k m hu hm
   cases hc:(decide (0≤m)&&decide (m<(n:Int))) with
   |false=>simp[hc]at ah
   |true =>
    simp only[hc,cond_true]at ah;split at ah
    ·rename_i v hv
     cases ah;have:=m6 hn c9.1 hu;simp only[V.ca,V.dg,List.any_eq_false]at this;exact ed hn (I6 hv fun u hu=>by simpa using this u hu)
    ·cases ah
  ·cases ah
 |field off sz x =>
  simp only[VO.run]at ah;split at ah
  ·rename_i cs hu
   split at ah
   ·rename_i v hv
    cases ah;have:=m6 hn c9 hu;simp only[V.ca,V.dg,List.any_eq_false]at this;exact ed hn (I6 hv fun u hu=>by simpa using this u hu)
   ·cases ah
  ·cases ah
 |len x =>
  simp only[VO.run]at ah;split at ah<;>first|(cases ah;done)|(cases ah;exact ed hn rfl)
 |tq x =>
  simp only[VO.run]at ah;split at ah<;>first|(cases ah;done)|(cases ah;exact ed hn rfl)
 |grow f id x =>
  simp only[VO.names,List.mem_singleton]at hd;simp only[VO.run]at ah;split at ah
  ·rename_i n hx
   cases hc:(decide (0≤n)&&decide (n≤(lim:Int))) with
   |false=>simp[hc]at ah
   |true =>
    simp only[hc,cond_true]at ah;cases ah;exact ed (tM hn (fun e=>hd e.symm) fun v hv=>by simp at hv) (by simp[V.ca,V.dg,V.cj];exact fun e=>hd e.symm)
  ·cases ah
 |rU E9 src x y =>
  simp only[VO.clean,Bool.and_eq_true]at c9;simp only[VO.run]at ah;split at ah
  ·rename_i id s n b hx hy
   split at ah
   ·rename_i cs us ho mT
    cases hc:(id==E9&&(s==1)&&Nat.ble n cs.length&&us.all V.sc) with
    |false=>simp[hc]at ah
    |true =>
     simp only[hc,cond_true]at ah;simp only[Bool.and_eq_true,List.all_eq_true,beq_iff_eq]at hc;cases ah;obtain⟨⟨⟨rfl,_⟩,_⟩,hc⟩:=hc;have l7:id≠d:=fun e=>by have:=m6 hn c9.1 hx;simp[V.ca,V.dg,V.cj,e]at this
     refine ed (tM hn l7 fun u hu=>?_) rfl;rcases List.mem_append.1 hu with h|h
     ·have:=hc u (List.mem_of_mem_take h)
      cases u<;>simp_all[V.sc,V.cj]
     ·exact hn.aV id cs ho u (List.mem_of_mem_drop h)
   ·cases ah
  ·cases ah
 |r7 x =>
  simp only[VO.run]at ah;split at ah<;>first|(cases ah;done)|(cases ah;exact ed hn rfl)
 |app bT src sh mx x y =>
  simp only[VO.clean,Bool.and_eq_true]at c9;simp only[VO.names,List.mem_singleton]at hd;simp only[VO.run]at ah;split at ah
  ·split at ah
   ·rename_i ys hy
    cases hc:Nat.ble ys.length mx with
    |false=>simp[hc]at ah
    |true =>
     simp only[hc,cond_true]at ah;cases ah;exact ed (AB hn (fun e=>hd e.symm)) (by simp[V.ca,V.dg,V.cj];exact fun e=>hd e.symm)
   ·cases ah
  ·split at ah
   ·rename_i ys hy
    cases hc:Nat.ble ys.length mx with
    |false=>simp[hc]at ah
    |true =>
     simp only[hc,cond_true]at ah;cases ah;exact ed (AB hn (fun e=>hd e.symm)) (by simp[V.ca,V.dg,V.cj];exact fun e=>hd e.symm)
   ·cases ah
  ·rename_i f n es v hx hy
   have hf:(f==d)=false:=by have:=m6 hn c9.1 hx;simpa [V.ca,V.dg,V.cj] using this
   split at ah
   ·rename_i ys hy
    split at ah
    ·rename_i k hk
     cases hc:(k==es.length&&(n==sh.length)&&Nat.ble (es.length+ys.length) mx) with
     |false=>simp[hc]at ah
     |true =>
      simp only[hc,cond_true]at ah;cases ah;exact ed (AB hn (by simpa using hf)) (by simp only[V.ca,V.dg,V.cj];exact hf)
    ·cases ah
   ·cases ah
  ·cases ah
 |qK nw src sh x y =>
  simp only[VO.clean,Bool.and_eq_true]at c9;simp only[VO.names,List.mem_singleton]at hd;have jd:∀{v:V} {ys:List (List V)},S.ev y=some v→S.rows sh v=some ys→∀u∈ys.flatten,u.cj d=false:=fun {v ys} hv gf u hu=>by
   have ET:∀{x:Value},aY (S.cx g w) v x→u.cj d=false:=fun {x} hr=>by
    rcases BY hR hr gf with⟨rfl,_⟩ | ⟨b,off,cap,l,_,_,_,hl⟩
    ·simp at hu
    ·obtain⟨j,hj⟩:=List.mem_iff_getElem?.1 hu
     exact I8 ((xj hl).2 j u hj).1
   cases y with
   |t s =>
    obtain⟨x,_,hr⟩:=hR.env s v hv;exact ET hr
   |c c =>
    simp only[St.ev,Option.some.injEq]at hv;subst hv;cases c with
    |bW=>simp[St.rows]at gf;subst gf;simp at hu
    |slice t n es =>
     have:es=[]:=by
      have h:=c9.2;simp only[bj.clean,V.bare]at h;cases t with
      |none=>cases es with
       |nil=>rfl
       |cons _ _=>simp[V.sC]at h
      |some _=>simp[V.sC]at h
     subst this;simp only[St.rows]at gf;cases vP:n==sh.length with
     |false=>simp[vP]at gf
     |true=>simp only[vP,cond_true,Option.some.injEq]at gf;subst gf;simp at hu
    |dH n=>simp[St.rows]at gf;subst gf;simp at hu
    |e8 n=>simp[St.rows]at gf;subst gf;simp at hu
    |_=>simp[St.rows]at gf
  simp only[VO.run]at ah;split at ah
  ·rename_i v hx hy
   split at ah
   ·rename_i ys gf
    cases he:ys.isEmpty with
    |true=>simp only[he,cond_true]at ah;cases ah;exact ed hn rfl
    |false =>
     simp only[he,cond_false]at ah;cases hc:Nat.ble ys.length lim with
     |false=>simp[hc]at ah
     |true =>
      simp only[hc,cond_true]at ah;cases ah;exact ed (tM hn (fun e=>hd e.symm) (jd hy gf)) (by simp[V.ca,V.dg,V.cj];exact fun e=>hd e.symm)
   ·cases ah
  ·rename_i n v hx hy
   split at ah
   ·rename_i ys gf
    cases he:ys.isEmpty with
    |true=>simp only[he,cond_true]at ah;cases ah;exact ed hn rfl
    |false =>
     simp only[he,cond_false]at ah;cases hc:Nat.ble ys.length lim with
     |false=>simp[hc]at ah
     |true =>
      simp only[hc,cond_true]at ah;cases ah;exact ed (tM hn (fun e=>hd e.symm) (jd hy gf)) (by simp[V.ca,V.dg,V.cj];exact fun e=>hd e.symm)
   ·cases ah
  ·rename_i id s ln v hx hy
   split at ah
   ·rename_i ys cs gf e9
    cases hc:((id==src)&&(s==sh.length)&&(cs.length==ln*s)&&Nat.ble (ln+ys.length) lim) with
    |false=>simp[hc]at ah
    |true =>
     simp only[hc,cond_true]at ah;cases ah;have vA:({ S with aV:=S.aV.filter fun p => !(p.1==src) }:St).ez d:=by
      refine⟨hn.env,fun k dR hk=>?_,?_,hn.tok⟩
      ·rw[qV]at hk
       split at hk
       ·cases hk
       ·exact hn.aV k dR hk
      ·rw[qV]
       split
       ·rfl
       ·exact hn.obj
     refine ed (tM vA (fun e=>hd e.symm) (fun u hu=>?_)) (by simp[V.ca,V.dg,V.cj];exact fun e=>hd e.symm)
     rcases List.mem_append.1 hu with h|h
     ·exact hn.aV src cs e9 u h
     ·exact jd hy gf u h
   ·cases ah
  ·cases ah
 |ext x i =>
  simp only[VO.run]at ah;split at ah
  ·rename_i vs hv
   split at ah
   ·rename_i v hk
    cases ah;exact ed hn (NP (m6 hn c9 hv) (List.mem_of_getElem? hk))
   ·cases ah
  ·cases ah
 |call alone f args reg =>
  cases alone
  case true =>
   simp only[VO.run]at ah;split at ah
   ·split at ah
    ·rename_i r G' hc
     cases Au:r.lone with
     |false=>simp[Au]at ah
     |true =>
      simp only[Au,cond_true]at ah;cases ah;obtain⟨h1,h2⟩:=I7 (hC _ _ _ _ _ hc) hd;have qe:look d ((recv reg r).2++S.a7)=none:=by rw[vJ,h2];exact hn.tok
      exact ed (S:={ env:=S.env,aV:=S.aV,a7:=(recv reg r).2++S.a7,ay:=S.ay }) ⟨hn.env,hn.aV,hn.obj,qe⟩ h1
    ·cases ah
   ·cases ah
  simp only[VO.run]at ah;split at ah
  ·split at ah
   ·rename_i r G' hc
    cases ah;obtain⟨h1,h2⟩:=I7 (hC _ _ _ _ _ hc) hd;have qe:look d ((recv reg r).2++S.a7)=none:=by rw[vJ,h2];exact hn.tok
    exact ed (S:={ env:=S.env,aV:=S.aV,a7:=(recv reg r).2++S.a7,ay:=G' }) ⟨hn.env,hn.aV,hn.obj,qe⟩ h1
   ·cases ah
  ·cases ah
 |tu k f i x =>
  simp only[VO.run]at ah;unfold St.mut at ah;split at ah
  ·rename_i id s n hx
   split at ah
   ·rename_i cs e9
    cases hc:(id==i&&(s==1)&&Nat.ble n cs.length&&Nat.ble n lim&&Nat.blt 0 n) with
    |false=>simp[hc]at ah
    |true =>
     simp only[hc,cond_true]at ah;simp only[Bool.and_eq_true,beq_iff_eq]at hc;obtain⟨⟨⟨⟨rfl,rfl⟩,_⟩,_⟩,_⟩:=hc;split at ah
     ·rename_i zs mV
      cases ah;have l7:=m6 hn c9 hx;have ch:id≠d:=fun e=>by simp[V.ca,V.dg,V.cj,e]at l7
      refine ed (tM hn ch fun u hu=>?_) ?_
      ·rcases List.mem_append.1 hu with h|h
       ·obtain⟨z,_,rfl⟩:=List.mem_map.1 h;rfl
       ·exact hn.aV id cs e9 u (List.mem_of_mem_drop h)
      ·unfold yn
       split
       ·rfl
       ·simpa [V.ca,V.dg,V.cj] using ch
     ·cases ah
   ·cases ah
  ·cases ah
 |pc f args =>
  have ah:=OI ah;simp only[VO.run]at ah;split at ah
  ·split at ah
   ·rename_i r G' hc
    cases ah;obtain⟨h1,h2⟩:=I7 (reg:=[]) (hC _ _ _ _ _ hc) (d:=d) (by simp[yI])
    have qe:look d ((recv [] r).2++S.a7)=none:=by rw[vJ,h2];exact hn.tok
    exact ed (S:={ env:=S.env,aV:=S.aV,a7:=(recv [] r).2++S.a7,ay:=G' }) ⟨hn.env,hn.aV,hn.obj,qe⟩ h1
   ·cases ah
  ·cases ah
 |own f args id pos =>
  simp only[VO.names,List.mem_singleton]at hd;have hL:∀(pos:Nat) (vs us:List V) (o:Option (List V)),mz id pos vs=some (us,o)→(∀u∈us,u.dg d=false)∧∀cs,o=some cs→∀u∈cs,u.cj d=false:=by
   have ZC:∀{u:V},u.sc=true→u.dg d=false∧u.cj d=false:=fun {u} h=>by cases u<;>simp[V.sc]at h<;>exact⟨rfl,rfl⟩
   have lI:∀{u:V},u.lI=true→(strip u).dg d=false:=fun {u} h=>by
    cases u with
    |slice t n es =>
     cases t with
     |none=>simp[V.lI,V.sc]at h
     |some t=>rfl
    |int|bool|str=>rfl
    |_=>simp[V.lI,V.sc]at h
   intro pos;induction pos with
   |zero =>
    intro vs us o h;cases vs with
    |nil=>simp[mz]at h
    |cons v vs =>
     simp only[mz]at h;split at h
     ·rename_i t n es
      cases hc:(es.all (fun r=>r.length==n&&r.all V.sc)&&vs.all V.lI) with
      |false=>simp[hc]at h
      |true =>
       simp only[hc,cond_true]at h;simp only[Bool.and_eq_true,List.all_eq_true]at hc;cases he:es.isEmpty with
       |true =>
        simp only[he,cond_true,Option.some.injEq,Prod.mk.injEq]at h;obtain⟨rfl,rfl⟩:=h;refine⟨fun u hu=>?_,fun cs e=>by cases e⟩
        rcases List.mem_cons.1 hu with rfl|hu
        ·rfl
        ·obtain⟨u0,px,rfl⟩:=List.mem_map.1 hu
         exact lI (hc.2 u0 px)
       |false =>
        simp only[he,cond_false,Option.some.injEq,Prod.mk.injEq]at h;obtain⟨rfl,rfl⟩:=h;refine⟨fun u hu=>?_,fun cs e u hu=>?_⟩
        ·rcases List.mem_cons.1 hu with rfl|hu
         ·simp[V.dg,V.cj];exact fun e=>hd e.symm
         ·obtain⟨u0,px,rfl⟩:=List.mem_map.1 hu
          exact lI (hc.2 u0 px)
        ·cases e
         obtain⟨r,oM,oa⟩:=List.mem_flatten.1 hu;exact(ZC ((hc.1 r oM).2 u oa)).2
     ·cases h
   |succ pos ih =>
    intro vs us o h;cases vs with
    |nil=>simp[mz]at h
    |cons v vs =>
     simp only[mz]at h;cases hs:v.lI with
     |false=>simp[hs]at h
     |true =>
      simp only[hs,cond_true]at h;split at h
      ·rename_i lX o' h'
       simp only[Option.some.injEq,Prod.mk.injEq]at h;obtain⟨rfl,rfl⟩:=h;obtain⟨i1,i2⟩:=ih vs lX _ h';refine⟨fun u hu=>?_,i2⟩;rcases List.mem_cons.1 hu with rfl|hu
       ·exact lI hs
       ·exact i1 u hu
      ·cases h
  have hV:∀r v o,iD id pos r=some (v,o)→v.ca d=false∧∀cs,o=some cs→∀u∈cs,u.cj d=false:=fun r v o h=>by
   unfold iD at h;split at h
   ·split at h
    ·rename_i us o' hl
     simp only[Option.some.injEq,Prod.mk.injEq]at h;obtain⟨rfl,rfl⟩:=h;obtain⟨i1,i2⟩:=hL _ _ _ _ hl;refine⟨?_,i2⟩;simp only[V.ca,List.any_eq_false];exact fun u hu=>by simp[i1 u hu]
    ·cases h
   ·split at h
    ·rename_i u o' hl
     simp only[Option.some.injEq,Prod.mk.injEq]at h;obtain⟨rfl,rfl⟩:=h;obtain⟨i1,i2⟩:=hL _ _ _ _ hl;exact⟨tC (i1 u (by simp)),i2⟩
    ·cases h
  simp only[VO.run]at ah;split at ah
  ·split at ah
   ·split at ah
    ·rename_i v cs ky
     cases ah;obtain⟨i1,i2⟩:=hV _ _ _ ky;exact ed (tM hn (fun e=>hd e.symm) (i2 cs rfl)) i1
    ·rename_i v ky
     cases ah;exact ed hn (hV _ _ _ ky).1
    ·cases ah
   ·cases ah
  ·cases ah
 |pe f args id =>
  simp only[VO.run]at ah;split at ah
  ·split at ah
   ·split at ah
    ·rename_i i n len cs _
     cases hc:(i==id&&Nat.blt 0 cs.length&&Nat.blt 0 len&&cs.all V.sc) with
     |false=>simp[hc]at ah
     |true=>simp only[hc,cond_true]at ah;cases ah;exact ed (uW hn) rfl
    ·cases ah;exact ed (uW hn) rfl
    ·cases ah
   ·cases ah
  ·cases ah
 |qL id zero x =>
  simp only[VO.clean,Bool.and_eq_true,List.all_eq_true]at c9;simp only[VO.names,List.mem_singleton]at hd;simp only[VO.run]at ah;split at ah
  ·rename_i k n hx
   cases hc:(decide (0≤n)&&decide (n≤(lim:Int))) with
   |false=>simp[hc]at ah
   |true =>
    simp only[hc,cond_true]at ah;cases ah;refine ed (tM hn (fun e=>hd e.symm) fun v hv=>?_) (by simp[V.ca,V.dg,V.cj];exact fun e=>hd e.symm)
    obtain⟨l,hl,hv⟩:=List.mem_flatten.1 hv;rw[(List.mem_replicate.1 hl).2]at hv;exact Cn (c9.2 v hv) d
  ·cases ah
 |tv sz x lo hi =>
  simp only[VO.clean,Bool.and_eq_true]at c9;simp only[VO.run]at ah;split at ah
  ·rename_i tk m es _
   split at ah
   ·rename_i k1 l k2 h _ _
    cases hc:(decide (0≤l)&&decide (l≤h)&&decide (h≤(es.length:Int))&&(m==sz)) with
    |false=>simp[hc]at ah
    |true=>simp only[hc,cond_true]at ah;cases ah;exact ed hn rfl
   ·cases ah
  ·split at ah
   ·rename_i k1 l k2 h _ _
    cases hc:(decide (l=0)&&decide (h=0)) with
    |false=>simp[hc]at ah
    |true=>simp only[hc,cond_true]at ah;cases ah;exact ed hn rfl
   ·cases ah
  ·rename_i id s n hx
   have l7:=m6 hn c9.1.1 hx;split at ah
   ·rename_i k1 l k2 h _ _
    cases hc:(decide (0≤l)&&decide (l≤h)&&decide (h≤(n:Int))&&(s==sz)) with
    |false=>simp[hc]at ah
    |true =>
     simp only[hc,cond_true]at ah;cases h1:decide (l=0) with
     |true=>simp only[h1,cond_true]at ah;cases ah;exact ed hn l7
     |false =>
      simp only[h1,cond_false]at ah;cases h2:decide (l<(n:Int)) with
      |false=>simp[h2]at ah
      |true=>simp only[h2,cond_true]at ah;cases ah;exact ed hn l7
   ·cases ah
  ·cases ah
 |r9 mx x y z =>
  simp only[VO.run]at ah;split at ah
  ·cases ah;exact ed hn rfl
  ·cases ah
 |mm mx x y =>
  simp only[VO.run]at ah;split at ah
  ·cases ah;exact ed hn rfl
  ·cases ah
 |tw f cap =>
  simp only[VO.run]at ah;split at ah
  ·split at ah
   ·cases ah;exact ed hn rfl
   ·cases ah
  ·cases ah
end
end Go.Vm
