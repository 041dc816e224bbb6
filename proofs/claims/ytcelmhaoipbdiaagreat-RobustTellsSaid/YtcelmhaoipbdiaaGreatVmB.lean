/- The value machine, 11: names do not come from nowhere. -/
import Derived.Test.YtcelmhaoipbdiaaGreatVmA
namespace Go.Vm
set_option linter.all false
def V.ew:V→Bool
 |.int .. | .bool .. | .str .. | .fn _ []=>true
 |_=>false
def V.tP:V→Bool
 |.int .. | .bool .. | .str .. | .bU | .gK | .gL | .gM | .fn .. | .slice none _ []=>true
 |.e8 row _=>row.all V.ew
 |_=>false
def V.bare:V→Bool
 |.agg cs=>cs.all V.tP
 |v=>v.tP
def bA.clean:bA→Bool
 |.t _=>true
 |.c v=>v.bare
def VO.clean:VO→Bool
 |.mv x | .box _ x | .vr _ x | .load _ _ x | .uz x | .un _ x | .conv _ x | .tA _ x | .arr _ _ x | .field _ _ x | .len x | .vz x | .wN x | .grow _ _ x | .ext x _=>x.clean
 |.wP _ _ _ x | .vx x=>x.clean
 |.tz _ x | .wO _ x=>x.clean
 |.zL _=>true
 |.sK f args _=>f.clean&&args.all fun p=>p.2.2.clean
 |.vy _ x y=>x.clean&&y.clean
 |.pick a b c=>a.clean&&b.clean&&c.clean
 |.obj _ cs=>cs.all V.tP
 |.vt _ _ | .vu=>true
 |.wM _ _ zero _ x k=>zero.bare&&x.clean&&k.clean
 |.vv _ _ _ x k y=>x.clean&&k.clean&&y.clean
 |.build zero ps=>zero.all V.tP&&ps.all fun p=>p.2.2.clean
 |.lit _ _ _ _ ps=>ps.all fun p=>p.2.clean
 |.vB _ x y z=>x.clean&&y.clean&&z.clean
 |.store _ _ x y | .bin _ x y | .beq _ x y | .gA _ _ x y | .oJ _ _ x y | .idx _ _ _ x y | .app _ _ _ _ x y | .uA _ _ _ _ x y | .vw _ _ x y | .mm _ x y=>x.clean&&y.clean
 |.own f args _ _ _=>f.clean&&args.all fun p=>p.2.2.clean
 |.call _ f args _ | .sL f args _ | .sJ f args=>f.clean&&args.all fun p=>p.2.clean
 |.uB _ zero x=>x.clean&&zero.all V.tP
 |.wQ _ x lo hi=>x.clean&&(lo.all bA.clean)&&(hi.all bA.clean)
 |.wR _ cap=>cap.all bA.clean
theorem Ia{v:V}(h:v.tP=true)(d:Nat):v.cI d=false:=by
 cases v<;>simp_all[V.tP,V.cI];rename_i t _ _;cases t<;>simp_all[V.tP,V.cI]
theorem Qt{v:V}(h:v.bare=true)(d:Nat):v.cA d=false:=by
 cases v with
 |agg cs =>
  simp only[V.bare,iL]at h;simp only[V.cA,V.dP,mR];exact fun x hx=>by simp[Ia (h x hx) d]
 |_=>apply uF;apply Ia;exact h
theorem XN{v:V}{d:Nat}(hc:v.cQ=true)(h:v.cA d=false):v.cI d=false:=by
 cases v<;>simp_all[V.cQ,V.cA,V.dP,V.cI]
section
variable {P:Program} {E:Entry} {g g':Gh} {S S':St} {a:Act} {w w':World} {d:Nat}
theorem oV(hn:S.fb d){x:bA}(hc:x.clean=true){v:V}(hv:S.ev x=some v):v.cA d=false:=by
 cases x with
 |t s=>exact hn.env s v hv
 |c u=>simp only[St.ev,Option.some.injEq]at hv;subst hv;exact Qt hc d
theorem eB(hn:S.fb d){dst:Option Nat}{v:V}(hv:v.cA d=false):(S.put dst v).fb d:=by
 cases dst with
 |none=>exact hn
 |some k =>
  refine⟨fun s u hs=>?_,hn.aZ,hn.obj,hn.tok⟩;rw[ET,dL]at hs;split at hs
  ·cases hs;exact hv
  ·exact hn.env s u hs
theorem xf(hn:S.fb d){id:Nat}(cq:id≠d){cs:List V}(hc:∀v∈cs,v.cI d=false):({ S with aZ:=(id,cs)::S.aZ }:St).fb d:=by
 refine⟨hn.env,fun i ei hi=>?_,?_,hn.tok⟩
 ·rw[dL]at hi
  split at hi
  ·cases hi;exact hc
  ·exact hn.aZ i ei hi
 ·rw[dL,av cq];exact hn.obj
theorem Fo(hn:S.fb d){f k:Nat}(cq:f≠d):({ S with bl:=(f,k)::S.bl }:St).fb d :=
 ⟨hn.env,hn.aZ,hn.obj,by rw[dL,av cq];exact hn.tok⟩
theorem xg(hn:S.fb d){G:List aP}:({ S with aD:=G }:St).fb d:=⟨hn.env,hn.aZ,hn.obj,hn.tok⟩
theorem Qu{v:V}(h:v.cA d=false)(hc:∀u∈v.cells,u.cQ=true):∀u∈v.cells,u.cI d=false:=fun u hu=>XN (hc u hu) (W8 h u hu)
theorem Qv{sz:Option Nat}{cs:List V}{off:Nat}{v:V}(h:loadAt sz cs off=some v)(hc:∀u∈cs,u.cI d=false):v.cA d=false:=by
 unfold loadAt at h;split at h
 ·exact uF (hc v (g9 h))
 ·rename_i n
  cases hb:Nat.ble (off+n) cs.length with
  |false=>simp[hb]at h
  |true =>
   simp only[hb,bM,Option.some.injEq]at h;subst h;simp only[V.cA,V.dP,mR];exact fun u hu=>by simp[hc u (KQ (KR hu))]
theorem ajU{v:V}(h:v.plain=true):v.cI d=false:=by
 cases v<;>simp_all[V.plain,V.cI];rename_i t _ _;cases t<;>simp_all[V.plain,V.cI]
theorem ajV(hR:R E g S a w)(hn:S.fb d){p:V}{x:Value}(hr:bf (S.cx g w) p x){cs:List V}{off:Nat}(hc:S.nY p=some (cs,off)):∀u∈cs,u.cI d=false:=by
 unfold St.nY at hc;split at hc
 ·split at hc
  ·rename_i i f q ei ho
   cases hc;exact hn.aZ i _ ho
  ·cases hc
 ·split at hc
  ·rename_i i f q ei ho
   cases hc;rcases hR.aD.obj i _ ho with h0 | ⟨_,hm,c,et,hh,hl,hj⟩
   ·cases h0;intro u hu;simp at hu
   intro u hu;obtain⟨j,vQ⟩:=sH.1 hu;have bI:j<c.size:=ja (fa vQ) hl;obtain⟨h1,h2,_⟩:=hj j u c[j] vQ (by simp[bI])
   exact XN h1 (h2 d)
  ·cases hc
 ·cases hc
  cases hr with
  |plain h _=>cases h
  |e8 row _ b o ys hb h1 h2 hp hm =>
   intro u hu;obtain⟨j,vQ⟩:=sH.1 hu;exact ajU (hp j u vQ)
 ·cases hc
theorem XO{cs vs:List V}{off:Nat}{u:V}(h:u∈jn cs off vs):u∈cs∨u∈vs:=by
 obtain⟨j,hj⟩:=sH.1 h;rw[zW]at hj;split at hj
 ·exact .inr (g9 hj)
 ·exact .inl (g9 hj)
theorem XP(hn:S.fb d):∀{ps:List (Nat×Nat×bA)} {cs ei:List V},(∀p∈ps,p.2.2.clean=true)→sN S ps cs=some ei→(∀u∈cs,u.cI d=false)→∀u∈ei,u.cI d=false
 |[],cs,ei,_,h,hc=>by simp only[sN,Option.some.injEq]at h;subst h;exact hc
 |(off,n,x)::ps,cs,ei,dJ,h,hc=>by
  simp only[sN]at h;split at h
  ·rename_i v hv
   cases hb:(v.cells.length==n&&Nat.ble (off+n) cs.length&&v.cells.all V.cQ) with
   |false=>simp[hb]at h
   |true =>
    simp only[hb,bM]at h;simp only[b8,iL]at hb;refine XP hn (fun p hp=>dJ p (CR _ hp)) h (fun u hu=>?_);rcases XO hu with h1|h1
    ·exact hc u h1
    ·exact Qu (oV hn (dJ (off,n,x) xV) hv) hb.2 u h1
  ·cases h
theorem XQ(hR:R E g S a w)(hn:S.fb d){x:bA}(dJ:x.clean=true){p:V}(hv:S.ev x=some p){cs:List V}{off:Nat}(hc:S.nY p=some (cs,off)):∀u∈cs,u.cI d=false:=by
 cases x with
 |t s =>
  obtain⟨y,_,hr⟩:=hR.env s p hv;exact ajV hR hn hr hc
 |c v =>
  simp only[St.ev,Option.some.injEq]at hv;subst hv;cases v with
  |e8 row o =>
   simp only[bA.clean,V.bare,V.tP,iL]at dJ;simp only[St.nY,Option.some.injEq,Prod.mk.injEq]at hc;obtain⟨rfl,rfl⟩:=hc;intro u hu;have:=dJ u hu;cases u<;>simp_all[V.ew,V.cI]
  |_=>simp_all[bA.clean,V.bare,V.tP,St.nY]
theorem Qw{r:V}(h:∀d,(BL r).cA d=false){reg:List (Nat×Nat)}{d:Nat}(hd:d∉Dl reg):(recv reg r).1.cA d=false∧look d (recv reg r).2=none:=by
 rw[Lq];have xh:∀p f,look p reg=some f→(f==d)=false:=fun p f hp=>by
  simp only[Bi,ne_eq];intro e;subst e;exact hd (nc.2 ⟨_,vO hp,rfl⟩)
 have uN:∀u∈(cY reg 0 r.gD).1,(∃n es f,u=.slice (some f) n es∧(f==d)=false)∨∃v∈r.gD,u=strip v:=fun u hu=>by
  obtain⟨k,hk⟩:=sH.1 hu;obtain⟨v,hv,hc⟩:=H2 reg _ 0 k u hk;rcases hc with⟨t,n,es,f,rfl,h2,rfl⟩ | rfl
  ·exact .inl ⟨n,es,f,rfl,xh _ f h2⟩
  ·exact .inr ⟨v,g9 hv,rfl⟩
 refine⟨?_,?_⟩
 ·have hs:=h d
  unfold BL at hs;have single:r.gD=[r]→(∀us,uL r us=us.headD .undef)→(uL r (cY reg 0 r.gD).1).cA d=false:=fun e1 e3=>by
   rw[e3]at hs ⊢;rw[e1]at hs uN ⊢;have pF:(cY reg 0 [r]).1.length=1:=Qd reg [r] 0
   match sY:(cY reg 0 [r]).1,pF with
   |[u],_ =>
    rw[sY]at uN;rcases uN u xV with⟨n,es,f,rfl,hf⟩ | ⟨v,hv,rfl⟩
    ·exact hf
    ·simp only[pq]at hv
     subst hv;exact hs
  cases r with
  |tuple vs =>
   simp only[uL,V.cA,V.gD,mR,nc]at hs ⊢;intro u hu;rcases uN u hu with⟨n,es,f,rfl,hf⟩ | ⟨v,hv,rfl⟩
   ·simp[V.dP,V.cI,hf]
   ·exact hs (strip v) ⟨v,hv,rfl⟩
  |agg vs =>
   simp only[uL,V.cA,V.dP,V.gD,mR,nc]at hs ⊢;intro u hu;rcases uN u hu with⟨n,es,f,rfl,hf⟩ | ⟨v,hv,rfl⟩
   ·simp[V.cI,hf]
   ·exact hs (strip v) ⟨v,hv,rfl⟩
  |_=>exact single rfl (fun _=>rfl)
 ·cases hl:look d (cY reg 0 r.gD).2 with
  |none=>rfl
  |some k =>
   obtain⟨p,t,n,es,_,h2,_⟩:=Fb reg _ 0 d k (vO hl);exact absurd (nc.2 ⟨_,vO h2,rfl⟩) hd
theorem XR{v:V}(h:v.cA d=false):v.lO.cA d=false:=by
 have h0:∀u:V,u.cI d=false→u.jm.cI d=false:=fun u hu=>by
  cases u<;>first|exact hu|rfl
 cases v with
 |agg cs =>
  simp only[V.lO,V.cA,V.dP,mR,nc,forall_exists_index,and_imp,forall_apply_eq_imp_iff₂]at h ⊢;intro u hu;have:=h0 u (by simpa using h u hu)
  simp[this]
 |fE=>rfl
 |_=>exact h
theorem ajW{vo:VO}{C:bD}{dst:Option Nat}(dJ:vo.clean=true)
  (hC:∀f args G r G',C f args G=some (r,G')→∀d,(BL r).cA d=false)
  (hR:R E g S a w) (hn:S.fb d) (hd:d∉vo.names) (ah:VO.run C dst S vo=some S'):S'.fb d:=by
 cases vo with
 |mv x =>
  simp only[VO.run]at ah;split at ah
  ·rename_i v hv;cases ah;exact eB hn (oV hn dJ hv)
  ·cases ah
 |pick c p q =>
  simp only[VO.clean,b8]at dJ;simp only[VO.run]at ah;split at ah
  ·rename_i t ht
   split at ah
   ·rename_i v hv
    cases ah;cases t
    ·exact eB hn (oV hn dJ.2 hv)
    ·exact eB hn (oV hn dJ.1.2 hv)
   ·cases ah
  ·cases ah
 |obj id cells =>
  simp only[VO.clean,iL]at dJ;simp only[VO.names,pq]at hd;simp only[VO.run]at ah;cases ah;exact eB (xf hn (fun e=>hd e.symm) fun v hv=>Ia (dJ v hv) d) (by simp[V.cA,V.dP,V.cI];exact fun e=>hd e.symm)
 |box id x =>
  simp only[VO.names,pq]at hd;simp only[VO.run]at ah;split at ah
  ·rename_i v hv
   cases hc:v.cells.all V.cQ with
   |false=>simp[hc]at ah
   |true =>
    simp only[hc,bM]at ah;simp only[iL]at hc;cases ah;exact eB (xf hn (fun e=>hd e.symm) (Qu (oV hn dJ hv) hc)) (by simp[V.cA,V.dP,V.cI];exact fun e=>hd e.symm)
  ·cases ah
 |vr sh x =>
  simp only[VO.run]at ah;split at ah
  ·split at ah
   ·cases ah;exact eB (xg hn) rfl
   ·cases ah
  ·cases ah
 |vt sh zero =>
  simp only[VO.run]at ah;split at ah
  ·cases ah;exact eB (xg hn) rfl
  ·cases ah
 |vu =>
  simp only[VO.run]at ah;cases ah;exact eB (xg hn) rfl
 |wM ag ks zero ok x k =>
  simp only[VO.clean,b8]at dJ;simp only[VO.run]at ah;split at ah
  ·rename_i i kv hx r0
   split at ah
   ·rename_i es b mU hb
    have XS:∀v b,(∀d,v.cA d=false)→v.dP d=false→(bif ok then V.tuple [v,.bool b] else v).cA d=false:=fun v b hv hc=>by
     cases ok
     ·exact hv d
     ·simp only[bM,V.cA,CM,zH,EH,OZ]
      exact⟨hc,rfl⟩
    split at ah
    ·rename_i j v hf
     cases ah;have Lx:∀(es:List (V×V)) i,nJ ag ks kv es i=some (some (j,v))→∃q,(q,v)∈es:=by
      intro es;induction es with
      |nil=>intro i h;simp[nJ]at h
      |cons p es ih =>
       obtain⟨q,u⟩:=p;intro i h;simp only[nJ]at h;split at h
       ·simp at h;obtain⟨_,rfl⟩:=h;exact⟨q,by simp⟩
       ·obtain⟨q',h'⟩:=ih _ h;exact⟨q',by simp[h']⟩
       ·cases h
     obtain⟨q,hq⟩:=Lx es 0 hf;obtain⟨n,Ad⟩:=sH.1 hq;obtain⟨_,_,c,ck,hh,hl,_,hj⟩:=Ly hR mU;have bI:=fa Ad;obtain⟨_,hv,_,_⟩:=hj n (q,v) c[n] Ad (by simp)
     exact eB hn (XS _ _ (fun d=>wW (hv d)) (hv d))
    ·cases ah
     refine eB hn (XS _ _ (fun d=>Qt dJ.1.1 d) ?_);have:=Qt dJ.1.1 d;have yF:=dJ.1.1;cases zero<;>first|(simpa [V.cA] using this)|simp[V.bare,V.tP]at yF
    ·cases ah
   ·cases ah
  ·cases ah
 |vv ag ks sh x k y =>
  simp only[VO.run]at ah;split at ah
  ·split at ah
   ·split at ah
    ·cases ah;exact xg hn
    ·cases ah;exact xg hn
    ·cases ah
   ·cases ah
  ·cases ah
 |build zero ps =>
  simp only[VO.clean,b8,iL]at dJ;simp only[VO.run]at ah;split at ah
  ·rename_i cs hf
   cases ah;refine eB hn ?_;have:=XP hn dJ.2 hf (fun u hu=>Ia (dJ.1 u hu) d);simp only[V.cA,V.dP,mR];exact fun u hu=>by simp[this u hu]
  ·cases ah
 |lit tok sh zero len ps =>
  simp only[VO.run]at ah;split at ah
  ·split at ah
   ·rename_i f
    simp only[VO.names,pq]at hd;cases ah;exact eB (Fo hn (fun e=>hd e.symm)) (by simp[V.cA,V.dP,V.cI];exact fun e=>hd e.symm)
   ·cases ah;exact eB hn rfl
  ·cases ah
 |load root sz x =>
  simp only[VO.run]at ah;split at ah
  ·rename_i u hu
   cases fZ:root.fits u with
   |false=>simp[fZ]at ah
   |true =>
    simp only[fZ,bM]at ah;split at ah
    ·rename_i cs off hc
     split at ah
     ·rename_i v hv
      cases ah;refine eB hn ?_;have:=Qv hv (XQ hR hn dJ hu hc);cases root
      ·exact this
      ·exact XR this
      ·exact this
     ·cases ah
    ·cases ah
  ·cases ah
 |store root sh x y =>
  simp only[VO.clean,b8]at dJ;simp only[VO.run]at ah;cases fZ:S.fits root x with
  |false=>simp[fZ]at ah
  |true =>
  simp only[fZ,bM]at ah;split at ah
  ·rename_i id off v hx hy
   split at ah
   ·rename_i cs ho
    cases hc:(v.cells.length==sh.length&&Nat.ble (off+sh.length) cs.length&&v.cells.all V.cQ&&Nat.blt 0 sh.length) with
    |false=>simp[hc]at ah
    |true =>
     simp only[hc,bM]at ah;simp only[b8,iL]at hc;cases ah;have oe:id≠d:=fun e=>by have:=oV hn dJ.1 hx;simp[V.cA,V.dP,V.cI,e]at this
     refine xf hn oe fun u hu=>?_;rcases XO hu with h|h
     ·exact hn.aZ id cs ho u h
     ·exact Qu (oV hn dJ.2 hy) hc.1.2 u h
   ·cases ah
  ·rename_i i off v hx hy
   split at ah
   ·rename_i cs ho
    split at ah
    ·rename_i vs hg
     cases hc:(Nat.ble (off+vs.length) cs.length&&Nat.blt 0 vs.length) with
     |false=>simp[hc]at ah
     |true=>simp only[hc,bM]at ah;cases ah;exact xg hn
    ·cases ah
   ·cases ah
  ·cases ah
 |zL n =>
  simp only[VO.run]at ah;cases ah;exact eB hn rfl
 |sK f args ids =>
  simp only[VO.run]at ah;split at ah
  ·split at ah
   ·rename_i r G' hc
    cases hs:r.qE with
    |false=>rw[hs]at ah;cases ah
    |true =>
     rw[hs]at ah;cases ah;have h0:∀v:V,v.sc=true→v.cI d=false∧v.dP d=false∧v.cA d=false:=fun v hv=>by
      cases v<;>simp[V.sc]at hv<;>exact⟨rfl,rfl,rfl⟩
     refine eB hn ?_;cases r with
     |tuple vs =>
      simp only[V.qE,iL]at hs;simp only[V.cA,mR];exact fun v hv=>by simp[(h0 v (hs v hv)).2.1]
     |agg vs =>
      simp only[V.qE,iL]at hs;simp only[V.cA,V.dP,mR];exact fun v hv=>by simp[(h0 v (hs v hv)).1]
     |_=>refine(h0 _ ?_).2.2;exact hs
   ·cases ah
  ·cases ah
 |wO neg x =>
  simp only[VO.run]at ah;split at ah<;>first|(cases ah;done)|(cases ah;exact eB hn rfl)
 |tz cn x =>
  simp only[VO.names,pq]at hd;simp only[VO.run]at ah;split at ah
  ·rename_i u hu
   split at ah
   ·rename_i v ts G ht
    cases ah;unfold St.take at ht;split at ht
    ·rename_i id off
     split at ht
     ·rename_i cs ho
      split at ht
      ·cases ht
       exact eB (xg (Fo hn (fun e=>hd e.symm))) (by simp[V.cA,V.dP,V.cI];exact fun e=>hd e.symm)
      ·rename_i z _ hz
       cases ht;have hm:=XQ (off:=off) hR hn dJ hu (cs:=cs) (by simp[St.nY,ho])
       exact eB (S:={ S with bl:=[]++S.bl,aD:=S.aD }) ⟨hn.env,hn.aZ,hn.obj,hn.tok⟩ (XR (uF (hm z (g9 hz))))
      ·cases ht
     ·cases ht
    ·cases ht
   ·cases ah
  ·cases ah
 |vy cn x y =>
  simp only[VO.run]at ah;split at ah
  ·split at ah
   ·rename_i ts G hg
    cases ah;unfold St.yd at hg;split at hg
    ·rename_i id off f n es
     split at hg
     ·rename_i k _ hk
      have cq:cn≠d:=fun e=>by
       rw[e,hn.tok]at hk;generalize (_==d)=q at hk;cases q<;>cases hk
      rcases OY (k==_&&Nat.blt _ _) with hc|hc
      ·rw[hc]at hg
       cases hg;exact xg (Fo hn cq)
      ·rw[hc]at hg;cases hg
     ·cases hg
    ·cases hg
   ·cases ah
  ·cases ah
 |uz x =>
  simp only[VO.run]at ah;split at ah<;>first|(cases ah;done)|skip
  all_goals
   rename_i hv;cases ah;exact eB hn (oV hn dJ hv)
 |bin op x y =>
  simp only[VO.run]at ah;split at ah
  ·split at ah
   ·rename_i v hv
    cases ah;refine eB hn ?_;unfold V.bin at hv;split at hv
    ·rename_i k m k' n _ _
     cases hk:decide (k=k') with
     |false=>simp[hk]at hv
     |true =>
      simp only[hk,bM]at hv;unfold Hy at hv;split at hv<;>(try split at hv)<;>cases hv<;>rfl
    ·cases hv
   ·cases ah
  ·cases ah
 |beq neg x y =>
  simp only[VO.run]at ah;split at ah
  ·cases ah;exact eB hn rfl
  ·cases ah
 |gA neg ks x y =>
  simp only[VO.run]at ah;split at ah
  ·split at ah
   ·rename_i v hv
    cases ah;refine eB hn ?_;unfold V.gA at hv;split at hv
    ·rename_i cs ds _ _
     cases hc:(cs.length==ks.length&&ds.length==ks.length) with
     |false=>simp[hc]at hv
     |true =>
      simp only[hc,bM]at hv;split at hv<;>cases hv<;>rfl
    ·cases hv
   ·cases ah
  ·cases ah
 |un op x =>
  simp only[VO.run]at ah;split at ah
  ·split at ah
   ·rename_i v hv
    cases ah;refine eB hn ?_;unfold V.un at hv;split at hv<;>(try split at hv)<;>cases hv<;>rfl
   ·cases ah
  ·cases ah
 |conv k x =>
  simp only[VO.run]at ah;split at ah
  ·cases ah;exact eB hn rfl
  ·cases ah
 |arr n sz x =>
  simp only[VO.run]at ah;split at ah
  ·rename_i hv
   have:=oV hn dJ hv;cases ah;exact eB hn this
  ·cases ah
 |tA off x =>
  simp only[VO.run]at ah;split at ah<;>first|(cases ah;done)|skip
  all_goals
   rename_i hv;have:=oV hn dJ hv;cases ah;exact eB hn this
 |oJ arr sz x i =>
  simp only[VO.clean,b8]at dJ;cases arr with
  |some n =>
   simp only[VO.run]at ah;split at ah
   ·rename_i u k m hu hm
    cases hc:(decide (0≤m)&&decide (m<(n:Int))) with
    |false=>simp[hc]at ah
    |true =>
     simp only[hc,bM]at ah;have:=oV hn dJ.1 hu;split at ah<;>first|(cases ah;done)|skip
     all_goals
      cases ah;exact eB hn this
   ·cases ah
  |none =>
   simp only[VO.run]at ah;split at ah
   ·rename_i tk m es k z hu hm
    cases hc:(decide (0≤z)&&(m==sz)) with
    |false=>simp[hc]at ah
    |true =>
     simp only[hc,bM]at ah;split at ah
     ·cases ah;exact eB hn rfl
     ·cases ah
   ·rename_i id off len k z hu hm
    cases hc:(decide (0≤z)&&decide (z<(len:Int))&&(off==sz)) with
    |false=>simp[hc]at ah
    |true =>
     simp only[hc,bM]at ah;have:=oV hn dJ.1 hu;cases ah;exact eB hn this
   ·rename_i id off len k z hu hm
    cases hc:(decide (0≤z)&&decide (z<(len:Int))&&(off==sz)) with
    |false=>simp[hc]at ah
    |true =>
     simp only[hc,bM]at ah;cases ah;exact eB hn rfl
   ·cases ah
 |idx n sz ag x i =>
  simp only[VO.clean,b8]at dJ;simp only[VO.run]at ah;split at ah
  ·rename_i cs k m hu hm
   cases hc:(decide (0≤m)&&decide (m<(n:Int))) with
   |false=>simp[hc]at ah
   |true =>
    simp only[hc,bM]at ah;split at ah
    ·rename_i v hv
     cases ah;have:=oV hn dJ.1 hu;simp only[V.cA,V.dP,mR]at this;exact eB hn (Qv hv fun u hu=>by simpa using this u hu)
    ·cases ah
  ·cases ah
 |field off sz x =>
  simp only[VO.run]at ah;split at ah
  ·rename_i cs hu
   split at ah
   ·rename_i v hv
    cases ah;have:=oV hn dJ hu;simp only[V.cA,V.dP,mR]at this;exact eB hn (Qv hv fun u hu=>by simpa using this u hu)
   ·cases ah
  ·cases ah
 |len x =>
  simp only[VO.run]at ah;split at ah<;>first|(cases ah;done)|(cases ah;exact eB hn rfl)
 |wN x =>
  simp only[VO.run]at ah;split at ah<;>first|(cases ah;done)|(cases ah;exact eB hn rfl)
 |grow f id x =>
  simp only[VO.names,pq]at hd;simp only[VO.run]at ah;split at ah
  ·rename_i n hx
   cases hc:(decide (0≤n)&&decide (n≤(lim:Int))) with
   |false=>simp[hc]at ah
   |true =>
    simp only[hc,bM]at ah;cases ah;exact eB (xf hn (fun e=>hd e.symm) fun v hv=>by simp at hv) (by simp[V.cA,V.dP,V.cI];exact fun e=>hd e.symm)
  ·cases ah
 |vw Lz src x y =>
  simp only[VO.clean,b8]at dJ;simp only[VO.run]at ah;split at ah
  ·rename_i id s n b hx hy
   split at ah
   ·rename_i cs us ho pD
    cases hc:(id==Lz&&(s==1)&&Nat.ble n cs.length&&us.all V.sc) with
    |false=>simp[hc]at ah
    |true =>
     simp only[hc,bM]at ah;simp only[b8,iL,eg]at hc;cases ah;obtain⟨⟨⟨rfl,_⟩,_⟩,hc⟩:=hc;have oe:id≠d:=fun e=>by have:=oV hn dJ.1 hx;simp[V.cA,V.dP,V.cI,e]at this
     refine eB (xf hn oe fun u hu=>?_) rfl;rcases mS.1 hu with h|h
     ·have:=hc u (KR h)
      cases u<;>simp_all[V.sc,V.cI]
     ·exact hn.aZ id cs ho u (KQ h)
   ·cases ah
  ·cases ah
 |vz x =>
  simp only[VO.run]at ah;split at ah<;>first|(cases ah;done)|(cases ah;exact eB hn rfl)
 |app cn src sh mx x y =>
  simp only[VO.clean,b8]at dJ;simp only[VO.names,pq]at hd;simp only[VO.run]at ah;split at ah
  ·split at ah
   ·rename_i ys hy
    cases hc:Nat.ble ys.length mx with
    |false=>simp[hc]at ah
    |true =>
     simp only[hc,bM]at ah;cases ah;exact eB (Fo hn (fun e=>hd e.symm)) (by simp[V.cA,V.dP,V.cI];exact fun e=>hd e.symm)
   ·cases ah
  ·split at ah
   ·rename_i ys hy
    cases hc:Nat.ble ys.length mx with
    |false=>simp[hc]at ah
    |true =>
     simp only[hc,bM]at ah;cases ah;exact eB (Fo hn (fun e=>hd e.symm)) (by simp[V.cA,V.dP,V.cI];exact fun e=>hd e.symm)
   ·cases ah
  ·rename_i f n es v hx hy
   have hf:(f==d)=false:=by have:=oV hn dJ.1 hx;simpa [V.cA,V.dP,V.cI] using this
   split at ah
   ·rename_i ys hy
    split at ah
    ·rename_i k hk
     cases hc:(k==es.length&&(n==sh.length)&&Nat.ble (es.length+ys.length) mx) with
     |false=>simp[hc]at ah
     |true =>
      simp only[hc,bM]at ah;cases ah;exact eB (Fo hn (by simpa using hf)) (by simp only[V.cA,V.dP,V.cI];exact hf)
    ·cases ah
   ·cases ah
  ·cases ah
 |uA nw src oy sh x y =>
  simp only[VO.clean,b8]at dJ;simp only[VO.names,pq]at hd;have hY:∀{v:V} {ys:List (List V)},S.ev y=some v→S.oK oy sh v=some ys→∀u∈ys.flatten,u.cI d=false:=fun {v ys} hv gO u hu=>by
   have EZ:∀{x:Value},bf (S.cx g w) v x→u.cI d=false:=fun {x} hr=>by
    rcases PN hR hr gO with⟨rfl,_⟩ | ⟨b,off,cap,l,_,_,_,hl⟩
    ·simp at hu
    ·obtain⟨j,hj⟩:=sH.1 hu
     exact Qx ((Ae hl).2 j u hj).1
   cases y with
   |t s =>
    obtain⟨x,_,hr⟩:=hR.env s v hv;exact EZ hr
   |c c =>
    simp only[St.ev,Option.some.injEq]at hv;subst hv;have gO:S.rows sh c=some ys:=by
     unfold St.oK at gO;cases oy with
     |none=>exact gO
     |some j=>cases c<;>first|exact gO|(have h:=dJ.2;simp[bA.clean,V.bare,V.tP]at h)
    cases c with
    |bU=>simp[St.rows]at gO;subst gO;simp at hu
    |slice t n es =>
     have:es=[]:=by
      have h:=dJ.2;simp only[bA.clean,V.bare]at h;cases t with
      |none=>cases es with
       |nil=>rfl
       |cons _ _=>simp[V.tP]at h
      |some _=>simp[V.tP]at h
     subst this;simp only[St.rows]at gO;cases Ad:n==sh.length with
     |false=>simp[Ad]at gO
     |true=>simp only[Ad,bM,Option.some.injEq]at gO;subst gO;simp at hu
    |ea n=>simp[St.rows]at gO;subst gO;simp at hu
    |gd n=>simp[St.rows]at gO;subst gO;simp at hu
    |_=>simp[St.rows]at gO
  simp only[VO.run]at ah;split at ah
  ·rename_i v hx hy
   split at ah
   ·rename_i ys gO
    cases he:ys.isEmpty with
    |true=>simp only[he,bM]at ah;cases ah;exact eB hn rfl
    |false =>
     simp only[he,fu]at ah;cases hc:Nat.ble ys.length lim with
     |false=>simp[hc]at ah
     |true =>
      simp only[hc,bM]at ah;cases ah;exact eB (xf hn (fun e=>hd e.symm) (hY hy gO)) (by simp[V.cA,V.dP,V.cI];exact fun e=>hd e.symm)
   ·cases ah
  ·rename_i n v hx hy
   split at ah
   ·rename_i ys gO
    cases he:ys.isEmpty with
    |true=>simp only[he,bM]at ah;cases ah;exact eB hn rfl
    |false =>
     simp only[he,fu]at ah;cases hc:Nat.ble ys.length lim with
     |false=>simp[hc]at ah
     |true =>
      simp only[hc,bM]at ah;cases ah;exact eB (xf hn (fun e=>hd e.symm) (hY hy gO)) (by simp[V.cA,V.dP,V.cI];exact fun e=>hd e.symm)
   ·cases ah
  ·rename_i id s ln v hx hy
   split at ah
   ·rename_i ys cs gO fM
    cases hc:((id==src)&&(s==sh.length)&&(cs.length==ln*s)&&Nat.ble (ln+ys.length) lim) with
    |false=>simp[hc]at ah
    |true =>
     simp only[hc,bM]at ah;cases ah;have zU:({ S with aZ:=S.aZ.filter fun p => !(p.1==src) }:St).fb d:=by
      refine⟨hn.env,fun k ei hk=>?_,?_,hn.tok⟩
      ·rw[uO]at hk
       split at hk
       ·cases hk
       ·exact hn.aZ k ei hk
      ·rw[uO]
       split
       ·rfl
       ·exact hn.obj
     refine eB (xf zU (fun e=>hd e.symm) (fun u hu=>?_)) (by simp[V.cA,V.dP,V.cI];exact fun e=>hd e.symm)
     rcases mS.1 hu with h|h
     ·exact hn.aZ src cs fM u h
     ·exact hY hy gO u h
   ·cases ah
  ·cases ah
 |ext x i =>
  simp only[VO.run]at ah;split at ah
  ·rename_i vs hv
   split at ah
   ·rename_i v hk
    cases ah;exact eB hn (WW (oV hn dJ hv) (g9 hk))
   ·cases ah
  ·cases ah
 |call alone f args reg =>
  cases alone
  case true =>
   simp only[VO.run]at ah;split at ah
   ·split at ah
    ·rename_i r G' hc
     cases Fh:r.lone with
     |false=>simp[Fh]at ah
     |true =>
      simp only[Fh,bM]at ah;cases ah;obtain⟨h1,h2⟩:=Qw (hC _ _ _ _ _ hc) hd;have tH:look d ((recv reg r).2++S.bl)=none:=by rw[z8,h2];exact hn.tok
      exact eB (S:={ env:=S.env,aZ:=S.aZ,bl:=(recv reg r).2++S.bl,aD:=S.aD }) ⟨hn.env,hn.aZ,hn.obj,tH⟩ h1
    ·cases ah
   ·cases ah
  simp only[VO.run]at ah;split at ah
  ·split at ah
   ·rename_i r G' hc
    cases ah;obtain⟨h1,h2⟩:=Qw (hC _ _ _ _ _ hc) hd;have tH:look d ((recv reg r).2++S.bl)=none:=by rw[z8,h2];exact hn.tok
    exact eB (S:={ env:=S.env,aZ:=S.aZ,bl:=(recv reg r).2++S.bl,aD:=G' }) ⟨hn.env,hn.aZ,hn.obj,tH⟩ h1
   ·cases ah
  ·cases ah
 |wP k f i x =>
  simp only[VO.run]at ah;unfold St.mut at ah;split at ah
  ·rename_i id s n hx
   split at ah
   ·rename_i cs fM
    cases hc:(id==i&&(s==1)&&Nat.ble n cs.length&&Nat.ble n lim&&Nat.blt 0 n) with
    |false=>simp[hc]at ah
    |true =>
     simp only[hc,bM]at ah;simp only[b8,eg]at hc;obtain⟨⟨⟨⟨rfl,rfl⟩,_⟩,_⟩,_⟩:=hc;split at ah
     ·rename_i zs pE
      cases ah;have oe:=oV hn dJ hx;have cq:id≠d:=fun e=>by simp[V.cA,V.dP,V.cI,e]at oe
      refine eB (xf hn cq fun u hu=>?_) ?_
      ·rcases mS.1 hu with h|h
       ·obtain⟨z,_,rfl⟩:=nc.1 h;rfl
       ·exact hn.aZ id cs fM u (KQ h)
      ·unfold C2
       split
       ·rfl
       ·simpa [V.cA,V.dP,V.cI] using cq
     ·cases ah
   ·cases ah
  ·cases ah
 |sJ f args =>
  have ah:=XI ah;simp only[VO.run]at ah;split at ah
  ·split at ah
   ·rename_i r G' hc
    cases ah;obtain⟨h1,h2⟩:=Qw (reg:=[]) (hC _ _ _ _ _ hc) (d:=d) (by simp[Dl])
    have tH:look d ((recv [] r).2++S.bl)=none:=by rw[z8,h2];exact hn.tok
    exact eB (S:={ env:=S.env,aZ:=S.aZ,bl:=(recv [] r).2++S.bl,aD:=G' }) ⟨hn.env,hn.aZ,hn.obj,tH⟩ h1
   ·cases ah
  ·cases ah
 |own f args ids id pos =>
  simp only[VO.names,pq]at hd;have hL:∀(pos:Nat) (vs us:List V) (o:Option (List V)),nZ id pos vs=some (us,o)→(∀u∈us,u.dP d=false)∧∀cs,o=some cs→∀u∈cs,u.cI d=false:=by
   have scm:∀{u:V},u.sc=true→u.dP d=false∧u.cI d=false:=fun {u} h=>by cases u<;>simp[V.sc]at h<;>exact⟨rfl,rfl⟩
   have kB:∀{u:V},u.kB=true→(strip u).dP d=false:=fun {u} h=>by
    cases u with
    |slice t n es =>
     cases t with
     |none=>simp[V.kB,V.sc]at h
     |some t=>rfl
    |int|bool|str=>rfl
    |_=>simp[V.kB,V.sc]at h
   intro pos;induction pos with
   |zero =>
    intro vs us o h;cases vs with
    |nil=>simp[nZ]at h
    |cons v vs =>
     simp only[nZ]at h;split at h
     ·rename_i t n es
      cases hc:(es.all (fun r=>r.length==n&&r.all V.sc)&&vs.all V.kB) with
      |false=>simp[hc]at h
      |true =>
       simp only[hc,bM]at h;simp only[b8,iL]at hc;cases he:es.isEmpty with
       |true =>
        simp only[he,bM,Option.some.injEq,Prod.mk.injEq]at h;obtain⟨rfl,rfl⟩:=h;refine⟨fun u hu=>?_,fun cs e=>by cases e⟩
        rcases jQ.1 hu with rfl|hu
        ·rfl
        ·obtain⟨u0,sX,rfl⟩:=nc.1 hu
         exact kB (hc.2 u0 sX)
       |false =>
        simp only[he,fu,Option.some.injEq,Prod.mk.injEq]at h;obtain⟨rfl,rfl⟩:=h;refine⟨fun u hu=>?_,fun cs e u hu=>?_⟩
        ·rcases jQ.1 hu with rfl|hu
         ·simp[V.dP,V.cI];exact fun e=>hd e.symm
         ·obtain⟨u0,sX,rfl⟩:=nc.1 hu
          exact kB (hc.2 u0 sX)
        ·cases e
         obtain⟨r,qj,lh⟩:=Pq.1 hu;exact(scm ((hc.1 r qj).2 u lh)).2
     ·cases h
   |succ pos ih =>
    intro vs us o h;cases vs with
    |nil=>simp[nZ]at h
    |cons v vs =>
     simp only[nZ]at h;cases hs:v.kB with
     |false=>simp[hs]at h
     |true =>
      simp only[hs,bM]at h;split at h
      ·rename_i l8 o' h'
       simp only[Option.some.injEq,Prod.mk.injEq]at h;obtain⟨rfl,rfl⟩:=h;obtain⟨i1,i2⟩:=ih vs l8 _ h';refine⟨fun u hu=>?_,i2⟩;rcases jQ.1 hu with rfl|hu
       ·exact kB hs
       ·exact i1 u hu
      ·cases h
  have hV:∀r v o,kC id pos r=some (v,o)→v.cA d=false∧∀cs,o=some cs→∀u∈cs,u.cI d=false:=fun r v o h=>by
   unfold kC at h;split at h
   ·split at h
    ·rename_i us o' hl
     simp only[Option.some.injEq,Prod.mk.injEq]at h;obtain⟨rfl,rfl⟩:=h;obtain⟨i1,i2⟩:=hL _ _ _ _ hl;refine⟨?_,i2⟩;simp only[V.cA,mR];exact fun u hu=>by simp[i1 u hu]
    ·cases h
   ·split at h
    ·rename_i u o' hl
     simp only[Option.some.injEq,Prod.mk.injEq]at h;obtain⟨rfl,rfl⟩:=h;obtain⟨i1,i2⟩:=hL _ _ _ _ hl;exact⟨wW (i1 u (by simp)),i2⟩
    ·cases h
  simp only[VO.run]at ah;split at ah
  ·split at ah
   ·split at ah
    ·rename_i v cs mB
     cases ah;obtain⟨i1,i2⟩:=hV _ _ _ mB;exact eB (xf hn (fun e=>hd e.symm) (i2 cs rfl)) i1
    ·rename_i v mB
     cases ah;exact eB hn (hV _ _ _ mB).1
    ·cases ah
   ·cases ah
  ·cases ah
 |sL f args id =>
  simp only[VO.run]at ah;split at ah
  ·split at ah
   ·split at ah
    ·rename_i i n len cs _
     cases hc:(i==id&&Nat.blt 0 cs.length&&Nat.blt 0 len&&cs.all V.sc) with
     |false=>simp[hc]at ah
     |true=>simp only[hc,bM]at ah;cases ah;exact eB (xg hn) rfl
    ·cases ah;exact eB (xg hn) rfl
    ·cases ah
   ·cases ah
  ·cases ah
 |uB id zero x =>
  simp only[VO.clean,b8,iL]at dJ;simp only[VO.names,pq]at hd;simp only[VO.run]at ah;split at ah
  ·rename_i k n hx
   cases hc:(decide (0≤n)&&decide (n≤(lim:Int))) with
   |false=>simp[hc]at ah
   |true =>
    simp only[hc,bM]at ah;cases ah;refine eB (xf hn (fun e=>hd e.symm) fun v hv=>?_) (by simp[V.cA,V.dP,V.cI];exact fun e=>hd e.symm)
    obtain⟨l,hl,hv⟩:=Pq.1 hv;rw[(WM.1 hl).2]at hv;exact Ia (dJ.2 v hv) d
  ·cases ah
 |wQ sz x lo hi =>
  simp only[VO.clean,b8]at dJ;simp only[VO.run]at ah;split at ah
  ·rename_i tk m es _
   split at ah
   ·rename_i k1 l k2 h _ _
    cases hc:(decide (0≤l)&&decide (l≤h)&&decide (h≤(es.length:Int))&&(m==sz)) with
    |false=>simp[hc]at ah
    |true=>simp only[hc,bM]at ah;cases ah;exact eB hn rfl
   ·cases ah
  ·split at ah
   ·rename_i k1 l k2 h _ _
    cases hc:(decide (l=0)&&decide (h=0)) with
    |false=>simp[hc]at ah
    |true=>simp only[hc,bM]at ah;cases ah;exact eB hn rfl
   ·cases ah
  ·rename_i id s n hx
   have oe:=oV hn dJ.1.1 hx;split at ah
   ·rename_i k1 l k2 h _ _
    cases hc:(decide (0≤l)&&decide (l≤h)&&decide (h≤(n:Int))&&(s==sz)) with
    |false=>simp[hc]at ah
    |true =>
     simp only[hc,bM]at ah;cases h1:decide (l=0) with
     |true=>simp only[h1,bM]at ah;cases ah;exact eB hn oe
     |false =>
      simp only[h1,fu]at ah;cases h2:decide (l<(n:Int)) with
      |false=>simp[h2]at ah
      |true=>simp only[h2,bM]at ah;cases ah;exact eB hn oe
   ·cases ah
  ·rename_i id s n _
   split at ah
   ·rename_i k1 l k2 h _ _
    cases hc:(decide (0≤l)&&decide (l≤h)&&decide (h≤(n:Int))&&(s==sz)) with
    |false=>simp[hc]at ah
    |true =>
     simp only[hc,bM]at ah;cases h1:decide (l=0) with
     |true=>simp only[h1,bM]at ah;cases ah;exact eB hn rfl
     |false =>
      simp only[h1,fu]at ah;cases h2:decide (l<(n:Int)) with
      |false=>simp[h2]at ah
      |true=>simp only[h2,bM]at ah;cases ah;exact eB hn rfl
   ·cases ah
  ·cases ah
 |vx x =>
  simp only[VO.run]at ah;split at ah
  ·split at ah
   ·rename_i G _
    cases ah;exact eB (S:={ S with aD:=G }) (xg hn) rfl
   ·cases ah
  ·cases ah
 |vB mx x y z =>
  simp only[VO.run]at ah;split at ah
  ·cases ah;exact eB hn rfl
  ·cases ah
 |mm mx x y =>
  simp only[VO.run]at ah;split at ah
  ·cases ah;exact eB hn rfl
  ·cases ah
 |wR f cap =>
  simp only[VO.run]at ah;split at ah
  ·split at ah
   ·cases ah;exact eB hn rfl
   ·cases ah
  ·cases ah
end
end Go.Vm
