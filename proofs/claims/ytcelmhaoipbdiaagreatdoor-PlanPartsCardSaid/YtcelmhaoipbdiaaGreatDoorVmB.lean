/- The value machine, 11: names do not come from nowhere. -/
import Derived.Test.YtcelmhaoipbdiaaGreatDoorVmA
namespace Go.Vm
set_option linter.all false
def V.eO:V→Bool
 |.int .. | .bool .. | .str .. | .fn _ []=>true
 |_=>false
def V.sf:V→Bool
 |.int .. | .bool .. | .str .. | .b9 | .fQ | .fR | .fS | .fn .. | .slice none _ []=>true
 |.eI row _=>row.all V.eO
 |_=>false
def V.bare:V→Bool
 |.agg cs=>cs.all V.sf
 |v=>v.sf
def bp.clean:bp→Bool
 |.t _=>true
 |.c v=>v.bare
def VO.clean:VO→Bool
 |.mv x | .box _ x | .tP _ x | .load _ _ x | .sY x | .un _ x | .conv _ x | .rM _ x | .arr _ _ x | .field _ _ x | .len x | .tW x | .u7 x | .grow _ _ x | .ext x _=>x.clean
 |.vb _ _ _ x | .tU x=>x.clean
 |.rJ _ x | .u9 _ x=>x.clean
 |.xv _=>true
 |.qF f args _=>f.clean&&args.all fun p=>p.2.2.clean
 |.tV _ x y=>x.clean&&y.clean
 |.pick a b c=>a.clean&&b.clean&&c.clean
 |.obj _ cs=>cs.all V.sf
 |.tQ _ _ | .tR=>true
 |.u6 _ _ zero _ x k=>zero.bare&&x.clean&&k.clean
 |.tS _ _ _ x k y=>x.clean&&k.clean&&y.clean
 |.build zero ps=>zero.all V.sf&&ps.all fun p=>p.2.2.clean
 |.lit _ _ _ _ ps=>ps.all fun p=>p.2.clean
 |.tY _ x y z=>x.clean&&y.clean&&z.clean
 |.store _ _ x y | .bin _ x y | .beq _ x y | .iu _ _ x y | .nx _ _ x y | .idx _ _ _ x y | .app _ _ _ _ x y | .sZ _ _ _ _ x y | .tT _ _ x y | .mm _ x y=>x.clean&&y.clean
 |.own f args _ _ _=>f.clean&&args.all fun p=>p.2.2.clean
 |.call _ f args _ | .qG f args _ | .qE f args=>f.clean&&args.all fun p=>p.2.clean
 |.s6 _ zero x=>x.clean&&zero.all V.sf
 |.vd _ x lo hi=>x.clean&&(lo.all bp.clean)&&(hi.all bp.clean)
 |.vg _ cap=>cap.all bp.clean
theorem FT{v:V}(h:v.sf=true)(d:Nat):v.cA d=false:=by
 cases v<;>simp_all[V.sf,V.cA];rename_i t _ _;cases t<;>simp_all[V.sf,V.cA]
theorem No{v:V}(h:v.bare=true)(d:Nat):v.ch d=false:=by
 cases v with
 |agg cs =>
  simp only[V.bare,g9]at h;simp only[V.ch,V.dv,mS];exact fun x hx=>by simp[FT (h x hx) d]
 |_=>apply s9;apply FT;exact h
theorem TU{v:V}{d:Nat}(hc:v.cI=true)(h:v.ch d=false):v.cA d=false:=by
 cases v<;>simp_all[V.cI,V.ch,V.dv,V.cA]
section
variable {P:Program} {E:Entry} {g g':Gh} {S S':St} {a:Act} {w w':World} {d:Nat}
theorem nG(hn:S.eM d){x:bp}(hc:x.clean=true){v:V}(hv:S.ev x=some v):v.ch d=false:=by
 cases x with
 |t s=>exact hn.env s v hv
 |c u=>simp only[St.ev,Option.some.injEq]at hv;subst hv;exact No hc d
theorem ed(hn:S.eM d){dst:Option Nat}{v:V}(hv:v.ch d=false):(S.put dst v).eM d:=by
 cases dst with
 |none=>exact hn
 |some k =>
  refine⟨fun s u hs=>?_,hn.aW,hn.obj,hn.tok⟩;rw[CN,dj]at hs;split at hs
  ·cases hs;exact hv
  ·exact hn.env s u hs
theorem vB(hn:S.eM d){id:Nat}(cf:id≠d){cs:List V}(hc:∀v∈cs,v.cA d=false):({ S with aW:=(id,cs)::S.aW }:St).eM d:=by
 refine⟨hn.env,fun i dQ hi=>?_,?_,hn.tok⟩
 ·rw[dj]at hi
  split at hi
  ·cases hi;exact hc
  ·exact hn.aW i dQ hi
 ·rw[dj,aA cf];exact hn.obj
theorem De(hn:S.eM d){f k:Nat}(cf:f≠d):({ S with bf:=(f,k)::S.bf }:St).eM d :=
 ⟨hn.env,hn.aW,hn.obj,by rw[dj,aA cf];exact hn.tok⟩
theorem vC(hn:S.eM d){G:List aT}:({ S with ay:=G }:St).eM d:=⟨hn.env,hn.aW,hn.obj,hn.tok⟩
theorem Np{v:V}(h:v.ch d=false)(hc:∀u∈v.cells,u.cI=true):∀u∈v.cells,u.cA d=false:=fun u hu=>TU (hc u hu) (Td h u hu)
theorem Nq{sz:Option Nat}{cs:List V}{off:Nat}{v:V}(h:loadAt sz cs off=some v)(hc:∀u∈cs,u.cA d=false):v.ch d=false:=by
 unfold loadAt at h;split at h
 ·exact s9 (hc v (gH h))
 ·rename_i n
  cases hb:Nat.ble (off+n) cs.length with
  |false=>simp[hb]at h
  |true =>
   simp only[hb,bC,Option.some.injEq]at h;subst h;simp only[V.ch,V.dv,mS];exact fun u hu=>by simp[hc u (IB (IC hu))]
theorem aeM{v:V}(h:v.plain=true):v.cA d=false:=by
 cases v<;>simp_all[V.plain,V.cA];rename_i t _ _;cases t<;>simp_all[V.plain,V.cA]
theorem aeN(hR:R E g S a w)(hn:S.eM d){p:V}{x:Value}(hr:aZ (S.cx g w) p x){cs:List V}{off:Nat}(hc:S.mU p=some (cs,off)):∀u∈cs,u.cA d=false:=by
 unfold St.mU at hc;split at hc
 ·split at hc
  ·rename_i i f q dQ ho
   cases hc;exact hn.aW i _ ho
  ·cases hc
 ·split at hc
  ·rename_i i f q dQ ho
   cases hc;rcases hR.ay.obj i _ ho with h0 | ⟨_,hm,c,et,hh,hl,hj⟩
   ·cases h0;intro u hu;simp at hu
   intro u hu;obtain⟨j,uk⟩:=qB.1 hu;have bB:j<c.size:=iq (eJ uk) hl;obtain⟨h1,h2,_⟩:=hj j u c[j] uk (by simp[bB])
   exact TU h1 (h2 d)
  ·cases hc
 ·cases hc
  cases hr with
  |plain h _=>cases h
  |eI row _ b o ys hb h1 h2 hp hm =>
   intro u hu;obtain⟨j,uk⟩:=qB.1 hu;exact aeM (hp j u uk)
 ·cases hc
theorem TV{cs vs:List V}{off:Nat}{u:V}(h:u∈iF cs off vs):u∈cs∨u∈vs:=by
 obtain⟨j,hj⟩:=qB.1 h;rw[zS]at hj;split at hj
 ·exact .inr (gH hj)
 ·exact .inl (gH hj)
theorem TW(hn:S.eM d):∀{ps:List (Nat×Nat×bp)} {cs dQ:List V},(∀p∈ps,p.2.2.clean=true)→qI S ps cs=some dQ→(∀u∈cs,u.cA d=false)→∀u∈dQ,u.cA d=false
 |[],cs,dQ,_,h,hc=>by simp only[qI,Option.some.injEq]at h;subst h;exact hc
 |(off,n,x)::ps,cs,dQ,dg,h,hc=>by
  simp only[qI]at h;split at h
  ·rename_i v hv
   cases hb:(v.cells.length==n&&Nat.ble (off+n) cs.length&&v.cells.all V.cI) with
   |false=>simp[hb]at h
   |true =>
    simp only[hb,bC]at h;simp only[bQ,g9]at hb;refine TW hn (fun p hp=>dg p (AW _ hp)) h (fun u hu=>?_);rcases TV hu with h1|h1
    ·exact hc u h1
    ·exact Np (nG hn (dg (off,n,x) wC) hv) hb.2 u h1
  ·cases h
theorem TX(hR:R E g S a w)(hn:S.eM d){x:bp}(dg:x.clean=true){p:V}(hv:S.ev x=some p){cs:List V}{off:Nat}(hc:S.mU p=some (cs,off)):∀u∈cs,u.cA d=false:=by
 cases x with
 |t s =>
  obtain⟨y,_,hr⟩:=hR.env s p hv;exact aeN hR hn hr hc
 |c v =>
  simp only[St.ev,Option.some.injEq]at hv;subst hv;cases v with
  |eI row o =>
   simp only[bp.clean,V.bare,V.sf,g9]at dg;simp only[St.mU,Option.some.injEq,Prod.mk.injEq]at hc;obtain⟨rfl,rfl⟩:=hc;intro u hu;have:=dg u hu;cases u<;>simp_all[V.eO,V.cA]
  |_=>simp_all[bp.clean,V.bare,V.sf,St.mU]
theorem Nr{r:V}(h:∀d,(Aa r).ch d=false){reg:List (Nat×Nat)}{d:Nat}(hd:d∉Bs reg):(recv reg r).1.ch d=false∧look d (recv reg r).2=none:=by
 rw[I7];have vF:∀p f,look p reg=some f→(f==d)=false:=fun p f hp=>by
  simp only[E6,ne_eq];intro e;subst e;exact hd (lV.2 ⟨_,ui hp,rfl⟩)
 have tl:∀u∈(cR reg 0 r.fO).1,(∃n es f,u=.slice (some f) n es∧(f==d)=false)∨∃v∈r.fO,u=strip v:=fun u hu=>by
  obtain⟨k,hk⟩:=qB.1 hu;obtain⟨v,hv,hc⟩:=FK reg _ 0 k u hk;rcases hc with⟨t,n,es,f,rfl,h2,rfl⟩ | rfl
  ·exact .inl ⟨n,es,f,rfl,vF _ f h2⟩
  ·exact .inr ⟨v,gH hv,rfl⟩
 refine⟨?_,?_⟩
 ·have hs:=h d
  unfold Aa at hs;have single:r.fO=[r]→(∀us,tg r us=us.headD .undef)→(tg r (cR reg 0 r.fO).1).ch d=false:=fun e1 e3=>by
   rw[e3]at hs ⊢;rw[e1]at hs tl ⊢;have oh:(cR reg 0 [r]).1.length=1:=M7 reg [r] 0
   match qR:(cR reg 0 [r]).1,oh with
   |[u],_ =>
    rw[qR]at tl;rcases tl u wC with⟨n,es,f,rfl,hf⟩ | ⟨v,hv,rfl⟩
    ·exact hf
    ·simp only[oK]at hv
     subst hv;exact hs
  cases r with
  |tuple vs =>
   simp only[tg,V.ch,V.fO,mS,lV]at hs ⊢;intro u hu;rcases tl u hu with⟨n,es,f,rfl,hf⟩ | ⟨v,hv,rfl⟩
   ·simp[V.dv,V.cA,hf]
   ·exact hs (strip v) ⟨v,hv,rfl⟩
  |agg vs =>
   simp only[tg,V.ch,V.dv,V.fO,mS,lV]at hs ⊢;intro u hu;rcases tl u hu with⟨n,es,f,rfl,hf⟩ | ⟨v,hv,rfl⟩
   ·simp[V.cA,hf]
   ·exact hs (strip v) ⟨v,hv,rfl⟩
  |_=>exact single rfl (fun _=>rfl)
 ·cases hl:look d (cR reg 0 r.fO).2 with
  |none=>rfl
  |some k =>
   obtain⟨p,t,n,es,_,h2,_⟩:=C4 reg _ 0 d k (ui hl);exact absurd (lV.2 ⟨_,ui h2,rfl⟩) hd
theorem TY{v:V}(h:v.ch d=false):v.kq.ch d=false:=by
 have h0:∀u:V,u.cA d=false→u.iV.cA d=false:=fun u hu=>by
  cases u<;>first|exact hu|rfl
 cases v with
 |agg cs =>
  simp only[V.kq,V.ch,V.dv,mS,lV,forall_exists_index,and_imp,forall_apply_eq_imp_iff₂]at h ⊢;intro u hu;have:=h0 u (by simpa using h u hu)
  simp[this]
 |e9=>rfl
 |_=>exact h
theorem aeO{vo:VO}{C:br}{dst:Option Nat}(dg:vo.clean=true)
  (hC:∀f args G r G',C f args G=some (r,G')→∀d,(Aa r).ch d=false)
  (hR:R E g S a w) (hn:S.eM d) (hd:d∉vo.names) (ah:VO.run C dst S vo=some S'):S'.eM d:=by
 cases vo with
 |mv x =>
  simp only[VO.run]at ah;split at ah
  ·rename_i v hv;cases ah;exact ed hn (nG hn dg hv)
  ·cases ah
 |pick c p q =>
  simp only[VO.clean,bQ]at dg;simp only[VO.run]at ah;split at ah
  ·rename_i t ht
   split at ah
   ·rename_i v hv
    cases ah;cases t
    ·exact ed hn (nG hn dg.2 hv)
    ·exact ed hn (nG hn dg.1.2 hv)
   ·cases ah
  ·cases ah
 |obj id cells =>
  simp only[VO.clean,g9]at dg;simp only[VO.names,oK]at hd;simp only[VO.run]at ah;cases ah;exact ed (vB hn (fun e=>hd e.symm) fun v hv=>FT (dg v hv) d) (by simp[V.ch,V.dv,V.cA];exact fun e=>hd e.symm)
 |box id x =>
  simp only[VO.names,oK]at hd;simp only[VO.run]at ah;split at ah
  ·rename_i v hv
   cases hc:v.cells.all V.cI with
   |false=>simp[hc]at ah
   |true =>
    simp only[hc,bC]at ah;simp only[g9]at hc;cases ah;exact ed (vB hn (fun e=>hd e.symm) (Np (nG hn dg hv) hc)) (by simp[V.ch,V.dv,V.cA];exact fun e=>hd e.symm)
  ·cases ah
 |tP sh x =>
  simp only[VO.run]at ah;split at ah
  ·split at ah
   ·cases ah;exact ed (vC hn) rfl
   ·cases ah
  ·cases ah
 |tQ sh zero =>
  simp only[VO.run]at ah;split at ah
  ·cases ah;exact ed (vC hn) rfl
  ·cases ah
 |tR =>
  simp only[VO.run]at ah;cases ah;exact ed (vC hn) rfl
 |u6 ag ks zero ok x k =>
  simp only[VO.clean,bQ]at dg;simp only[VO.run]at ah;split at ah
  ·rename_i i kv hx qO
   split at ah
   ·rename_i es b lK hb
    have TZ:∀v b,(∀d,v.ch d=false)→v.dv d=false→(bif ok then V.tuple [v,.bool b] else v).ch d=false:=fun v b hv hc=>by
     cases ok
     ·exact hv d
     ·simp only[bC,V.ch,EL,EN,EF,L6]
      exact⟨hc,rfl⟩
    split at ah
    ·rename_i j v hf
     cases ah;have Jd:∀(es:List (V×V)) i,mA ag ks kv es i=some (some (j,v))→∃q,(q,v)∈es:=by
      intro es;induction es with
      |nil=>intro i h;simp[mA]at h
      |cons p es ih =>
       obtain⟨q,u⟩:=p;intro i h;simp only[mA]at h;split at h
       ·simp at h;obtain⟨_,rfl⟩:=h;exact⟨q,by simp⟩
       ·obtain⟨q',h'⟩:=ih _ h;exact⟨q',by simp[h']⟩
       ·cases h
     obtain⟨q,hq⟩:=Jd es 0 hf;obtain⟨n,xQ⟩:=qB.1 hq;obtain⟨_,_,c,ck,hh,hl,_,hj⟩:=Je hR lK;have bB:=eJ xQ;obtain⟨_,hv,_,_⟩:=hj n (q,v) c[n] xQ (by simp)
     exact ed hn (TZ _ _ (fun d=>vl (hv d)) (hv d))
    ·cases ah
     refine ed hn (TZ _ _ (fun d=>No dg.1.1 d) ?_);have:=No dg.1.1 d;have Df:=dg.1.1;cases zero<;>first|(simpa [V.ch] using this)|simp[V.bare,V.sf]at Df
    ·cases ah
   ·cases ah
  ·cases ah
 |tS ag ks sh x k y =>
  simp only[VO.run]at ah;split at ah
  ·split at ah
   ·split at ah
    ·cases ah;exact vC hn
    ·cases ah;exact vC hn
    ·cases ah
   ·cases ah
  ·cases ah
 |build zero ps =>
  simp only[VO.clean,bQ,g9]at dg;simp only[VO.run]at ah;split at ah
  ·rename_i cs hf
   cases ah;refine ed hn ?_;have:=TW hn dg.2 hf (fun u hu=>FT (dg.1 u hu) d);simp only[V.ch,V.dv,mS];exact fun u hu=>by simp[this u hu]
  ·cases ah
 |lit tok sh zero len ps =>
  simp only[VO.run]at ah;split at ah
  ·split at ah
   ·rename_i f
    simp only[VO.names,oK]at hd;cases ah;exact ed (De hn (fun e=>hd e.symm)) (by simp[V.ch,V.dv,V.cA];exact fun e=>hd e.symm)
   ·cases ah;exact ed hn rfl
  ·cases ah
 |load root sz x =>
  simp only[VO.run]at ah;split at ah
  ·rename_i u hu
   cases fu:root.fits u with
   |false=>simp[fu]at ah
   |true =>
    simp only[fu,bC]at ah;split at ah
    ·rename_i cs off hc
     split at ah
     ·rename_i v hv
      cases ah;refine ed hn ?_;have:=Nq hv (TX hR hn dg hu hc);cases root
      ·exact this
      ·exact TY this
      ·exact this
     ·cases ah
    ·cases ah
  ·cases ah
 |store root sh x y =>
  simp only[VO.clean,bQ]at dg;simp only[VO.run]at ah;cases fu:S.fits root x with
  |false=>simp[fu]at ah
  |true =>
  simp only[fu,bC]at ah;split at ah
  ·rename_i id off v hx hy
   split at ah
   ·rename_i cs ho
    cases hc:(v.cells.length==sh.length&&Nat.ble (off+sh.length) cs.length&&v.cells.all V.cI&&Nat.blt 0 sh.length) with
    |false=>simp[hc]at ah
    |true =>
     simp only[hc,bC]at ah;simp only[bQ,g9]at hc;cases ah;have m7:id≠d:=fun e=>by have:=nG hn dg.1 hx;simp[V.ch,V.dv,V.cA,e]at this
     refine vB hn m7 fun u hu=>?_;rcases TV hu with h|h
     ·exact hn.aW id cs ho u h
     ·exact Np (nG hn dg.2 hy) hc.1.2 u h
   ·cases ah
  ·rename_i i off v hx hy
   split at ah
   ·rename_i cs ho
    split at ah
    ·rename_i vs hg
     cases hc:(Nat.ble (off+vs.length) cs.length&&Nat.blt 0 vs.length) with
     |false=>simp[hc]at ah
     |true=>simp only[hc,bC]at ah;cases ah;exact vC hn
    ·cases ah
   ·cases ah
  ·cases ah
 |xv n =>
  simp only[VO.run]at ah;cases ah;exact ed hn rfl
 |qF f args ids =>
  simp only[VO.run]at ah;split at ah
  ·split at ah
   ·rename_i r G' hc
    cases hs:r.pz with
    |false=>rw[hs]at ah;cases ah
    |true =>
     rw[hs]at ah;cases ah;have h0:∀v:V,v.sc=true→v.cA d=false∧v.dv d=false∧v.ch d=false:=fun v hv=>by
      cases v<;>simp[V.sc]at hv<;>exact⟨rfl,rfl,rfl⟩
     refine ed hn ?_;cases r with
     |tuple vs =>
      simp only[V.pz,g9]at hs;simp only[V.ch,mS];exact fun v hv=>by simp[(h0 v (hs v hv)).2.1]
     |agg vs =>
      simp only[V.pz,g9]at hs;simp only[V.ch,V.dv,mS];exact fun v hv=>by simp[(h0 v (hs v hv)).1]
     |_=>refine(h0 _ ?_).2.2;exact hs
   ·cases ah
  ·cases ah
 |u9 neg x =>
  simp only[VO.run]at ah;split at ah<;>first|(cases ah;done)|(cases ah;exact ed hn rfl)
 |rJ cb x =>
  simp only[VO.names,oK]at hd;simp only[VO.run]at ah;split at ah
  ·rename_i u hu
   split at ah
   ·rename_i v ts G ht
    cases ah;unfold St.take at ht;split at ht
    ·rename_i id off
     split at ht
     ·rename_i cs ho
      split at ht
      ·cases ht
       exact ed (vC (De hn (fun e=>hd e.symm))) (by simp[V.ch,V.dv,V.cA];exact fun e=>hd e.symm)
      ·rename_i z _ hz
       cases ht;have hm:=TX (off:=off) hR hn dg hu (cs:=cs) (by simp[St.mU,ho])
       exact ed (S:={ S with bf:=[]++S.bf,ay:=S.ay }) ⟨hn.env,hn.aW,hn.obj,hn.tok⟩ (TY (s9 (hm z (gH hz))))
      ·cases ht
     ·cases ht
    ·cases ht
   ·cases ah
  ·cases ah
 |tV cb x y =>
  simp only[VO.run]at ah;split at ah
  ·split at ah
   ·rename_i ts G hg
    cases ah;unfold St.wG at hg;split at hg
    ·rename_i id off f n es
     split at hg
     ·rename_i k _ hk
      have cf:cb≠d:=fun e=>by
       rw[e,hn.tok]at hk;generalize (_==d)=q at hk;cases q<;>cases hk
      rcases L5 (k==_&&Nat.blt _ _) with hc|hc
      ·rw[hc]at hg
       cases hg;exact vC (De hn cf)
      ·rw[hc]at hg;cases hg
     ·cases hg
    ·cases hg
   ·cases ah
  ·cases ah
 |sY x =>
  simp only[VO.run]at ah;split at ah<;>first|(cases ah;done)|skip
  all_goals
   rename_i hv;cases ah;exact ed hn (nG hn dg hv)
 |bin op x y =>
  simp only[VO.run]at ah;split at ah
  ·split at ah
   ·rename_i v hv
    cases ah;refine ed hn ?_;unfold V.bin at hv;split at hv
    ·rename_i k m k' n _ _
     cases hk:decide (k=k') with
     |false=>simp[hk]at hv
     |true =>
      simp only[hk,bC]at hv;unfold E9 at hv;split at hv<;>(try split at hv)<;>cases hv<;>rfl
    ·cases hv
   ·cases ah
  ·cases ah
 |beq neg x y =>
  simp only[VO.run]at ah;split at ah
  ·cases ah;exact ed hn rfl
  ·cases ah
 |iu neg ks x y =>
  simp only[VO.run]at ah;split at ah
  ·split at ah
   ·rename_i v hv
    cases ah;refine ed hn ?_;unfold V.iu at hv;split at hv
    ·rename_i cs ds _ _
     cases hc:(cs.length==ks.length&&ds.length==ks.length) with
     |false=>simp[hc]at hv
     |true =>
      simp only[hc,bC]at hv;split at hv<;>cases hv<;>rfl
    ·cases hv
   ·cases ah
  ·cases ah
 |un op x =>
  simp only[VO.run]at ah;split at ah
  ·split at ah
   ·rename_i v hv
    cases ah;refine ed hn ?_;unfold V.un at hv;split at hv<;>(try split at hv)<;>cases hv<;>rfl
   ·cases ah
  ·cases ah
 |conv k x =>
  simp only[VO.run]at ah;split at ah
  ·cases ah;exact ed hn rfl
  ·cases ah
 |arr n sz x =>
  simp only[VO.run]at ah;split at ah
  ·rename_i hv
   have:=nG hn dg hv;cases ah;exact ed hn this
  ·cases ah
 |rM off x =>
  simp only[VO.run]at ah;split at ah<;>first|(cases ah;done)|skip
  all_goals
   rename_i hv;have:=nG hn dg hv;cases ah;exact ed hn this
 |nx arr sz x i =>
  simp only[VO.clean,bQ]at dg;cases arr with
  |some n =>
   simp only[VO.run]at ah;split at ah
   ·rename_i u k m hu hm
    cases hc:(decide (0≤m)&&decide (m<(n:Int))) with
    |false=>simp[hc]at ah
    |true =>
     simp only[hc,bC]at ah;have:=nG hn dg.1 hu;split at ah<;>first|(cases ah;done)|skip
     all_goals
      cases ah;exact ed hn this
   ·cases ah
  |none =>
   simp only[VO.run]at ah;split at ah
   ·rename_i tk m es k z hu hm
    cases hc:(decide (0≤z)&&(m==sz)) with
    |false=>simp[hc]at ah
    |true =>
     simp only[hc,bC]at ah;split at ah
     ·cases ah;exact ed hn rfl
     ·cases ah
   ·rename_i id off len k z hu hm
    cases hc:(decide (0≤z)&&decide (z<(len:Int))&&(off==sz)) with
    |false=>simp[hc]at ah
    |true =>
     simp only[hc,bC]at ah;have:=nG hn dg.1 hu;cases ah;exact ed hn this
   ·rename_i id off len k z hu hm
    cases hc:(decide (0≤z)&&decide (z<(len:Int))&&(off==sz)) with
    |false=>simp[hc]at ah
    |true =>
     simp only[hc,bC]at ah;cases ah;exact ed hn rfl
   ·cases ah
 |idx n sz ag x i =>
  simp only[VO.clean,bQ]at dg;simp only[VO.run]at ah;split at ah
  ·rename_i cs k m hu hm
   cases hc:(decide (0≤m)&&decide (m<(n:Int))) with
   |false=>simp[hc]at ah
   |true =>
    simp only[hc,bC]at ah;split at ah
    ·rename_i v hv
     cases ah;have:=nG hn dg.1 hu;simp only[V.ch,V.dv,mS]at this;exact ed hn (Nq hv fun u hu=>by simpa using this u hu)
    ·cases ah
  ·cases ah
 |field off sz x =>
  simp only[VO.run]at ah;split at ah
  ·rename_i cs hu
   split at ah
   ·rename_i v hv
    cases ah;have:=nG hn dg hu;simp only[V.ch,V.dv,mS]at this;exact ed hn (Nq hv fun u hu=>by simpa using this u hu)
   ·cases ah
  ·cases ah
 |len x =>
  simp only[VO.run]at ah;split at ah<;>first|(cases ah;done)|(cases ah;exact ed hn rfl)
 |u7 x =>
  simp only[VO.run]at ah;split at ah<;>first|(cases ah;done)|(cases ah;exact ed hn rfl)
 |grow f id x =>
  simp only[VO.names,oK]at hd;simp only[VO.run]at ah;split at ah
  ·rename_i n hx
   cases hc:(decide (0≤n)&&decide (n≤(lim:Int))) with
   |false=>simp[hc]at ah
   |true =>
    simp only[hc,bC]at ah;cases ah;exact ed (vB hn (fun e=>hd e.symm) fun v hv=>by simp at hv) (by simp[V.ch,V.dv,V.cA];exact fun e=>hd e.symm)
  ·cases ah
 |tT Jf src x y =>
  simp only[VO.clean,bQ]at dg;simp only[VO.run]at ah;split at ah
  ·rename_i id s n b hx hy
   split at ah
   ·rename_i cs us ho oa
    cases hc:(id==Jf&&(s==1)&&Nat.ble n cs.length&&us.all V.sc) with
    |false=>simp[hc]at ah
    |true =>
     simp only[hc,bC]at ah;simp only[bQ,g9,dO]at hc;cases ah;obtain⟨⟨⟨rfl,_⟩,_⟩,hc⟩:=hc;have m7:id≠d:=fun e=>by have:=nG hn dg.1 hx;simp[V.ch,V.dv,V.cA,e]at this
     refine ed (vB hn m7 fun u hu=>?_) rfl;rcases qA.1 hu with h|h
     ·have:=hc u (IC h)
      cases u<;>simp_all[V.sc,V.cA]
     ·exact hn.aW id cs ho u (IB h)
   ·cases ah
  ·cases ah
 |tW x =>
  simp only[VO.run]at ah;split at ah<;>first|(cases ah;done)|(cases ah;exact ed hn rfl)
 |app cb src sh mx x y =>
  simp only[VO.clean,bQ]at dg;simp only[VO.names,oK]at hd;simp only[VO.run]at ah;split at ah
  ·split at ah
   ·rename_i ys hy
    cases hc:Nat.ble ys.length mx with
    |false=>simp[hc]at ah
    |true =>
     simp only[hc,bC]at ah;cases ah;exact ed (De hn (fun e=>hd e.symm)) (by simp[V.ch,V.dv,V.cA];exact fun e=>hd e.symm)
   ·cases ah
  ·split at ah
   ·rename_i ys hy
    cases hc:Nat.ble ys.length mx with
    |false=>simp[hc]at ah
    |true =>
     simp only[hc,bC]at ah;cases ah;exact ed (De hn (fun e=>hd e.symm)) (by simp[V.ch,V.dv,V.cA];exact fun e=>hd e.symm)
   ·cases ah
  ·rename_i f n es v hx hy
   have hf:(f==d)=false:=by have:=nG hn dg.1 hx;simpa [V.ch,V.dv,V.cA] using this
   split at ah
   ·rename_i ys hy
    split at ah
    ·rename_i k hk
     cases hc:(k==es.length&&(n==sh.length)&&Nat.ble (es.length+ys.length) mx) with
     |false=>simp[hc]at ah
     |true =>
      simp only[hc,bC]at ah;cases ah;exact ed (De hn (by simpa using hf)) (by simp only[V.ch,V.dv,V.cA];exact hf)
    ·cases ah
   ·cases ah
  ·cases ah
 |sZ nw src oy sh x y =>
  simp only[VO.clean,bQ]at dg;simp only[VO.names,oK]at hd;have ky:∀{v:V} {ys:List (List V)},S.ev y=some v→S.ny oy sh v=some ys→∀u∈ys.flatten,u.cA d=false:=fun {v ys} hv fV u hu=>by
   have I3:∀{x:Value},aZ (S.cx g w) v x→u.cA d=false:=fun {x} hr=>by
    rcases MI hR hr fV with⟨rfl,_⟩ | ⟨b,off,cap,l,_,_,_,hl⟩
    ·simp at hu
    ·obtain⟨j,hj⟩:=qB.1 hu
     exact Ns ((xR hl).2 j u hj).1
   cases y with
   |t s =>
    obtain⟨x,_,hr⟩:=hR.env s v hv;exact I3 hr
   |c c =>
    simp only[St.ev,Option.some.injEq]at hv;subst hv;have fV:S.rows sh c=some ys:=by
     unfold St.ny at fV;cases oy with
     |none=>exact fV
     |some j=>cases c<;>first|exact fV|(have h:=dg.2;simp[bp.clean,V.bare,V.sf]at h)
    cases c with
    |b9=>simp[St.rows]at fV;subst fV;simp at hu
    |slice t n es =>
     have:es=[]:=by
      have h:=dg.2;simp only[bp.clean,V.bare]at h;cases t with
      |none=>cases es with
       |nil=>rfl
       |cons _ _=>simp[V.sf]at h
      |some _=>simp[V.sf]at h
     subst this;simp only[St.rows]at fV;cases xQ:n==sh.length with
     |false=>simp[xQ]at fV
     |true=>simp only[xQ,bC,Option.some.injEq]at fV;subst fV;simp at hu
    |dX n=>simp[St.rows]at fV;subst fV;simp at hu
    |fx n=>simp[St.rows]at fV;subst fV;simp at hu
    |_=>simp[St.rows]at fV
  simp only[VO.run]at ah;split at ah
  ·rename_i v hx hy
   split at ah
   ·rename_i ys fV
    cases he:ys.isEmpty with
    |true=>simp only[he,bC]at ah;cases ah;exact ed hn rfl
    |false =>
     simp only[he,eV]at ah;cases hc:Nat.ble ys.length lim with
     |false=>simp[hc]at ah
     |true =>
      simp only[hc,bC]at ah;cases ah;exact ed (vB hn (fun e=>hd e.symm) (ky hy fV)) (by simp[V.ch,V.dv,V.cA];exact fun e=>hd e.symm)
   ·cases ah
  ·rename_i n v hx hy
   split at ah
   ·rename_i ys fV
    cases he:ys.isEmpty with
    |true=>simp only[he,bC]at ah;cases ah;exact ed hn rfl
    |false =>
     simp only[he,eV]at ah;cases hc:Nat.ble ys.length lim with
     |false=>simp[hc]at ah
     |true =>
      simp only[hc,bC]at ah;cases ah;exact ed (vB hn (fun e=>hd e.symm) (ky hy fV)) (by simp[V.ch,V.dv,V.cA];exact fun e=>hd e.symm)
   ·cases ah
  ·rename_i id s ln v hx hy
   split at ah
   ·rename_i ys cs fV ff
    cases hc:((id==src)&&(s==sh.length)&&(cs.length==ln*s)&&Nat.ble (ln+ys.length) lim) with
    |false=>simp[hc]at ah
    |true =>
     simp only[hc,bC]at ah;cases ah;have xF:({ S with aW:=S.aW.filter fun p => !(p.1==src) }:St).eM d:=by
      refine⟨hn.env,fun k dQ hk=>?_,?_,hn.tok⟩
      ·rw[tm]at hk
       split at hk
       ·cases hk
       ·exact hn.aW k dQ hk
      ·rw[tm]
       split
       ·rfl
       ·exact hn.obj
     refine ed (vB xF (fun e=>hd e.symm) (fun u hu=>?_)) (by simp[V.ch,V.dv,V.cA];exact fun e=>hd e.symm)
     rcases qA.1 hu with h|h
     ·exact hn.aW src cs ff u h
     ·exact ky hy fV u h
   ·cases ah
  ·cases ah
 |ext x i =>
  simp only[VO.run]at ah;split at ah
  ·rename_i vs hv
   split at ah
   ·rename_i v hk
    cases ah;exact ed hn (SX (nG hn dg hv) (gH hk))
   ·cases ah
  ·cases ah
 |call alone f args reg =>
  cases alone
  case true =>
   simp only[VO.run]at ah;split at ah
   ·split at ah
    ·rename_i r G' hc
     cases C8:r.lone with
     |false=>simp[C8]at ah
     |true =>
      simp only[C8,bC]at ah;cases ah;obtain⟨h1,h2⟩:=Nr (hC _ _ _ _ _ hc) hd;have r7:look d ((recv reg r).2++S.bf)=none:=by rw[xM,h2];exact hn.tok
      exact ed (S:={ env:=S.env,aW:=S.aW,bf:=(recv reg r).2++S.bf,ay:=S.ay }) ⟨hn.env,hn.aW,hn.obj,r7⟩ h1
    ·cases ah
   ·cases ah
  simp only[VO.run]at ah;split at ah
  ·split at ah
   ·rename_i r G' hc
    cases ah;obtain⟨h1,h2⟩:=Nr (hC _ _ _ _ _ hc) hd;have r7:look d ((recv reg r).2++S.bf)=none:=by rw[xM,h2];exact hn.tok
    exact ed (S:={ env:=S.env,aW:=S.aW,bf:=(recv reg r).2++S.bf,ay:=G' }) ⟨hn.env,hn.aW,hn.obj,r7⟩ h1
   ·cases ah
  ·cases ah
 |vb k f i x =>
  simp only[VO.run]at ah;unfold St.mut at ah;split at ah
  ·rename_i id s n hx
   split at ah
   ·rename_i cs ff
    cases hc:(id==i&&(s==1)&&Nat.ble n cs.length&&Nat.ble n lim&&Nat.blt 0 n) with
    |false=>simp[hc]at ah
    |true =>
     simp only[hc,bC]at ah;simp only[bQ,dO]at hc;obtain⟨⟨⟨⟨rfl,rfl⟩,_⟩,_⟩,_⟩:=hc;split at ah
     ·rename_i zs oe
      cases ah;have m7:=nG hn dg hx;have cf:id≠d:=fun e=>by simp[V.ch,V.dv,V.cA,e]at m7
      refine ed (vB hn cf fun u hu=>?_) ?_
      ·rcases qA.1 hu with h|h
       ·obtain⟨z,_,rfl⟩:=lV.1 h;rfl
       ·exact hn.aW id cs ff u (IB h)
      ·unfold A7
       split
       ·rfl
       ·simpa [V.ch,V.dv,V.cA] using cf
     ·cases ah
   ·cases ah
  ·cases ah
 |qE f args =>
  have ah:=TP ah;simp only[VO.run]at ah;split at ah
  ·split at ah
   ·rename_i r G' hc
    cases ah;obtain⟨h1,h2⟩:=Nr (reg:=[]) (hC _ _ _ _ _ hc) (d:=d) (by simp[Bs])
    have r7:look d ((recv [] r).2++S.bf)=none:=by rw[xM,h2];exact hn.tok
    exact ed (S:={ env:=S.env,aW:=S.aW,bf:=(recv [] r).2++S.bf,ay:=G' }) ⟨hn.env,hn.aW,hn.obj,r7⟩ h1
   ·cases ah
  ·cases ah
 |own f args ids id pos =>
  simp only[VO.names,oK]at hd;have hL:∀(pos:Nat) (vs us:List V) (o:Option (List V)),mV id pos vs=some (us,o)→(∀u∈us,u.dv d=false)∧∀cs,o=some cs→∀u∈cs,u.cA d=false:=by
   have scm:∀{u:V},u.sc=true→u.dv d=false∧u.cA d=false:=fun {u} h=>by cases u<;>simp[V.sc]at h<;>exact⟨rfl,rfl⟩
   have jV:∀{u:V},u.jV=true→(strip u).dv d=false:=fun {u} h=>by
    cases u with
    |slice t n es =>
     cases t with
     |none=>simp[V.jV,V.sc]at h
     |some t=>rfl
    |int|bool|str=>rfl
    |_=>simp[V.jV,V.sc]at h
   intro pos;induction pos with
   |zero =>
    intro vs us o h;cases vs with
    |nil=>simp[mV]at h
    |cons v vs =>
     simp only[mV]at h;split at h
     ·rename_i t n es
      cases hc:(es.all (fun r=>r.length==n&&r.all V.sc)&&vs.all V.jV) with
      |false=>simp[hc]at h
      |true =>
       simp only[hc,bC]at h;simp only[bQ,g9]at hc;cases he:es.isEmpty with
       |true =>
        simp only[he,bC,Option.some.injEq,Prod.mk.injEq]at h;obtain⟨rfl,rfl⟩:=h;refine⟨fun u hu=>?_,fun cs e=>by cases e⟩
        rcases ko.1 hu with rfl|hu
        ·rfl
        ·obtain⟨u0,qQ,rfl⟩:=lV.1 hu
         exact jV (hc.2 u0 qQ)
       |false =>
        simp only[he,eV,Option.some.injEq,Prod.mk.injEq]at h;obtain⟨rfl,rfl⟩:=h;refine⟨fun u hu=>?_,fun cs e u hu=>?_⟩
        ·rcases ko.1 hu with rfl|hu
         ·simp[V.dv,V.cA];exact fun e=>hd e.symm
         ·obtain⟨u0,qQ,rfl⟩:=lV.1 hu
          exact jV (hc.2 u0 qQ)
        ·cases e
         obtain⟨r,qc,od⟩:=Mp.1 hu;exact(scm ((hc.1 r qc).2 u od)).2
     ·cases h
   |succ pos ih =>
    intro vs us o h;cases vs with
    |nil=>simp[mV]at h
    |cons v vs =>
     simp only[mV]at h;cases hs:v.jV with
     |false=>simp[hs]at h
     |true =>
      simp only[hs,bC]at h;split at h
      ·rename_i m6 o' h'
       simp only[Option.some.injEq,Prod.mk.injEq]at h;obtain⟨rfl,rfl⟩:=h;obtain⟨i1,i2⟩:=ih vs m6 _ h';refine⟨fun u hu=>?_,i2⟩;rcases ko.1 hu with rfl|hu
       ·exact jV hs
       ·exact i1 u hu
      ·cases h
  have hV:∀r v o,jW id pos r=some (v,o)→v.ch d=false∧∀cs,o=some cs→∀u∈cs,u.cA d=false:=fun r v o h=>by
   unfold jW at h;split at h
   ·split at h
    ·rename_i us o' hl
     simp only[Option.some.injEq,Prod.mk.injEq]at h;obtain⟨rfl,rfl⟩:=h;obtain⟨i1,i2⟩:=hL _ _ _ _ hl;refine⟨?_,i2⟩;simp only[V.ch,mS];exact fun u hu=>by simp[i1 u hu]
    ·cases h
   ·split at h
    ·rename_i u o' hl
     simp only[Option.some.injEq,Prod.mk.injEq]at h;obtain⟨rfl,rfl⟩:=h;obtain⟨i1,i2⟩:=hL _ _ _ _ hl;exact⟨vl (i1 u (by simp)),i2⟩
    ·cases h
  simp only[VO.run]at ah;split at ah
  ·split at ah
   ·split at ah
    ·rename_i v cs lg
     cases ah;obtain⟨i1,i2⟩:=hV _ _ _ lg;exact ed (vB hn (fun e=>hd e.symm) (i2 cs rfl)) i1
    ·rename_i v lg
     cases ah;exact ed hn (hV _ _ _ lg).1
    ·cases ah
   ·cases ah
  ·cases ah
 |qG f args id =>
  simp only[VO.run]at ah;split at ah
  ·split at ah
   ·split at ah
    ·rename_i i n len cs _
     cases hc:(i==id&&Nat.blt 0 cs.length&&Nat.blt 0 len&&cs.all V.sc) with
     |false=>simp[hc]at ah
     |true=>simp only[hc,bC]at ah;cases ah;exact ed (vC hn) rfl
    ·cases ah;exact ed (vC hn) rfl
    ·cases ah
   ·cases ah
  ·cases ah
 |s6 id zero x =>
  simp only[VO.clean,bQ,g9]at dg;simp only[VO.names,oK]at hd;simp only[VO.run]at ah;split at ah
  ·rename_i k n hx
   cases hc:(decide (0≤n)&&decide (n≤(lim:Int))) with
   |false=>simp[hc]at ah
   |true =>
    simp only[hc,bC]at ah;cases ah;refine ed (vB hn (fun e=>hd e.symm) fun v hv=>?_) (by simp[V.ch,V.dv,V.cA];exact fun e=>hd e.symm)
    obtain⟨l,hl,hv⟩:=Mp.1 hv;rw[(SM.1 hl).2]at hv;exact FT (dg.2 v hv) d
  ·cases ah
 |vd sz x lo hi =>
  simp only[VO.clean,bQ]at dg;simp only[VO.run]at ah;split at ah
  ·rename_i tk m es _
   split at ah
   ·rename_i k1 l k2 h _ _
    cases hc:(decide (0≤l)&&decide (l≤h)&&decide (h≤(es.length:Int))&&(m==sz)) with
    |false=>simp[hc]at ah
    |true=>simp only[hc,bC]at ah;cases ah;exact ed hn rfl
   ·cases ah
  ·split at ah
   ·rename_i k1 l k2 h _ _
    cases hc:(decide (l=0)&&decide (h=0)) with
    |false=>simp[hc]at ah
    |true=>simp only[hc,bC]at ah;cases ah;exact ed hn rfl
   ·cases ah
  ·rename_i id s n hx
   have m7:=nG hn dg.1.1 hx;split at ah
   ·rename_i k1 l k2 h _ _
    cases hc:(decide (0≤l)&&decide (l≤h)&&decide (h≤(n:Int))&&(s==sz)) with
    |false=>simp[hc]at ah
    |true =>
     simp only[hc,bC]at ah;cases h1:decide (l=0) with
     |true=>simp only[h1,bC]at ah;cases ah;exact ed hn m7
     |false =>
      simp only[h1,eV]at ah;cases h2:decide (l<(n:Int)) with
      |false=>simp[h2]at ah
      |true=>simp only[h2,bC]at ah;cases ah;exact ed hn m7
   ·cases ah
  ·rename_i id s n _
   split at ah
   ·rename_i k1 l k2 h _ _
    cases hc:(decide (0≤l)&&decide (l≤h)&&decide (h≤(n:Int))&&(s==sz)) with
    |false=>simp[hc]at ah
    |true =>
     simp only[hc,bC]at ah;cases h1:decide (l=0) with
     |true=>simp only[h1,bC]at ah;cases ah;exact ed hn rfl
     |false =>
      simp only[h1,eV]at ah;cases h2:decide (l<(n:Int)) with
      |false=>simp[h2]at ah
      |true=>simp only[h2,bC]at ah;cases ah;exact ed hn rfl
   ·cases ah
  ·cases ah
 |tU x =>
  simp only[VO.run]at ah;split at ah
  ·split at ah
   ·rename_i G _
    cases ah;exact ed (S:={ S with ay:=G }) (vC hn) rfl
   ·cases ah
  ·cases ah
 |tY mx x y z =>
  simp only[VO.run]at ah;split at ah
  ·cases ah;exact ed hn rfl
  ·cases ah
 |mm mx x y =>
  simp only[VO.run]at ah;split at ah
  ·cases ah;exact ed hn rfl
  ·cases ah
 |vg f cap =>
  simp only[VO.run]at ah;split at ah
  ·split at ah
   ·cases ah;exact ed hn rfl
   ·cases ah
  ·cases ah
end
end Go.Vm
