/- The value machine: results that become the caller's own. -/
import Derived.Test.YtcelmhaoipbdiaaGreatDoorVmQ
import Derived.Test.YtcelmhaoipbdiaaGreatDoorVmV
namespace Go.Vm
set_option linter.all false
section
variable {P:Program} {E:Entry} {g g':Gh} {S S':St} {a:Act} {w w':World}
theorem J0{X:Cx}{v:V}{y:Value}(h:v.sc=true)(hr:aZ X (strip v) y)(X':Cx):aZ X' v y:=by
 cases v<;>simp[V.sc]at h
 ·rw[lX hr];exact .plain (.int _ _) (tc rfl)
 ·rw[zL hr];exact .plain (.bool _) (tc rfl)
 ·obtain⟨z,rfl,e⟩:=aZ.Al hr
  subst e;exact .plain (.str _) (tc rfl)
theorem GC{v:V}(h:v.sc=true):v.cI=true∧(∀d,v.ch d=false)∧strip v=v:=by
 cases v<;>simp[V.sc]at h<;>exact⟨rfl,fun _=>rfl,rfl⟩
theorem OK{X:Cx}{base q:Nat}{v:V}{y:Value}(h:v.jV=true)(hr:aZ X (strip v) y)(hf:C2 X base (fun _=>False) q v y)(X':Cx)(hh:X'.h=X.h)(hm:∀b,X.g.ow b=.tok q→X.g.m b≤X'.g.m b):aZ X' (strip v) y:=by
 have sc:v.sc=true→aZ X' (strip v) y:=fun hs=>by
  rw[(GC hs).2.2];exact J0 hs hr X'
 cases v with
 |slice t n es =>
  cases t with
  |none=>simp[V.jV,V.sc]at h
  |some t =>
   simp only[V.jV,g9,bQ,dO]at h;have hv:fa X.h X.g.m (.slice none n es) y:=by
    have:aZ X (.slice none n es) y:=hr;cases this with|plain h _=>exact h
   have go:fa X'.h X'.g.m (.slice none n es) y:=by
    cases hv with
    |nil=>exact .nil _ _
    |empty _ _ a cap=>exact .empty _ _ a cap
    |slice _ _ _ b off cap ys hb en iw hc FF hp xz =>
     by_cases he:es=[]
     ·subst he
      exact .empty _ _ _ cap
     rcases hf t n es rfl with⟨e,_⟩ | ⟨b',off',qM,c,e,h1,_,h3,_,_,_,_,_⟩
     ·exact absurd e he
     ·injection h1 with h1 _ _
      injection h1 with h1;injection h1 with h4 h5 _;subst h4;refine .slice none n es b off cap ys (by rw[hh];exact hb) en iw (fun i row j v hi hj=>by rw[hh];exact hc i row j v hi hj) (fun i row j v hi hj=>?_) hp (jT xz (hm b h3))
      have hs:=(h row (gH hi)).2 v (gH hj);have h6:=FF i row j v hi hj;generalize ys i j=z at h6 ⊢;cases v<;>simp[V.sc]at hs
      ·cases h6;exact .int _ _
      ·cases h6;exact .bool _
      ·cases h6;exact .str _
   exact .plain go (fun _ _ _ e=>by cases e)
 |_=>exact sc (by simpa [V.jV] using h)
def OL(X:Cx)(base p id:Nat)(us:List V)(ys:List Value):Option (List V)→Prop
 |none=>us.length=ys.length∧∀(X':Cx),X'.h=X.h→(∀b,X.g.m b≤X'.g.m b)→∀(k:Nat) (u:V) (y:Value),us[k]?=some u→ys[k]?=some y→aZ X' u y
 |some cs=>us.length=ys.length∧∃b DI c e,base≤b∧X.g.ow b=.tok p∧X.h[b]?=some (.cells c e (0,0))∧DI≤c.size ∧
   (∀(j:Nat) (u:V),cs[j]?=some u→u.sc=true∧∃y,c[j]?=some y∧∀X':Cx,aZ X' u y) ∧
   ∀X':Cx,X'.h=X.h→(∀b',b'≠b→X.g.m b'≤X'.g.m b')→X'.g.κ id=b→X'.g.cp id=DI→∀(k:Nat) (u:V) (y:Value),us[k]?=some u→ys[k]?=some y→aZ X' u y
theorem V1{X:Cx}{base id:Nat}:∀{pos k0:Nat} {vs us:List V} {ys:List Value} {o:Option (List V)},mV id pos vs=some (us,o)→vs.length=ys.length →
  (∀(k:Nat) (v:V) (y:Value),vs[k]?=some v→ys[k]?=some y→aZ X (strip v) y∧C2 X base (fun _=>False) (k0+k) v y)→OL X base (k0+pos) id us ys o
 |_,_,[],_,_,_,h,_,_=>by cases ‹Nat› <;> simp[mV]at h
 |0,_,_::_,_,[],_,_,hl,_=>by simp at hl
 |0,k0,v::vs,us,y::ys,o,h,hl,hr=>by
  simp only[mV]at h;split at h
  ·rename_i t n es
   cases hc:(es.all (fun r=>r.length==n&&r.all V.sc)&&vs.all V.jV) with
   |false=>simp[hc]at h
   |true =>
    simp only[hc,bC]at h;simp only[bQ,g9,dO]at hc;obtain⟨h0,hf⟩:=hr 0 _ y rfl rfl;have uo:∀(X':Cx),X'.h=X.h→(∀b,X.g.ow b≠.tok k0→X.g.m b≤X'.g.m b)→∀(k:Nat) (u:V) (z:Value),(vs.map strip)[k]?=some u→ys[k]?=some z→aZ X' u z:=fun X' hh hm k u z hu hz=>by
     rw[tN]at hu;cases hk:vs[k]? with
     |none=>simp[hk]at hu
     |some u0 =>
      simp[hk]at hu;subst hu;obtain⟨q1,q2⟩:=hr (k+1) u0 z (by simpa using hk) (by simpa using hz)
      exact OK (hc.2 u0 (gH hk)) q1 q2 X' hh (fun b hb=>hm b (fun e=>by rw[hb]at e;injection e with e;omega))
    cases he:es.isEmpty with
    |true =>
     simp only[he,bC,Option.some.injEq,Prod.mk.injEq]at h;obtain⟨rfl,rfl⟩:=h;have he:es=[]:=by simpa using he
     subst he;refine⟨by simpa using hl,fun X' hh hm k u z hu hz=>?_⟩
     cases k with
     |zero =>
      simp at hu hz;subst hu;subst hz;rcases hf t n [] rfl with⟨_,e⟩ | ⟨b,off,cap,c,e,_,_,_,_,_,_,_,h9⟩
      ·exact .dX e
      ·simp at h9
     |succ k=>exact uo X' hh (fun b _=>hm b) k u z (by simpa using hu) (by simpa using hz)
    |false =>
     simp only[he,eV,Option.some.injEq,Prod.mk.injEq]at h;obtain⟨rfl,rfl⟩:=h;have cf:es≠[]:=by intro e;subst e;simp at he
     rcases hf t n es rfl with⟨e,_⟩ | ⟨b,off,cap,c,e,h1,h2,h3,_,h5,h6,h7,_⟩
     ·exact absurd e cf
     ·subst h7
      have hv:fa X.h X.g.m (.slice none n es) y:=by
       have:aZ X (.slice none n es) y:=h0;cases this with|plain h _=>exact h
      rcases IY hv with⟨e,_⟩ | ⟨e,_⟩ | ⟨b',off',qM,l,q1,q2,q3,q4⟩
      ·exact absurd e cf
      ·exact absurd e cf
      ·rw[q1]at h1
       injection h1 with r1 r2 r3;injection r1 with r1;injection r1 with r4 r5 r6;subst r4;subst r5;subst r3;obtain⟨f1,f2⟩:=xR q4;refine⟨by simpa using hl,b',qM*n,c,e,h2.resolve_right (fun h=>h),h3,h5,by omega,fun j u hu=>?_,fun X' hh hm k1 k2 k u z hu hz=>?_⟩
       ·obtain⟨_,z,yq,Bc⟩:=f2 j u hu
        have BI:u.sc=true:=by
         obtain⟨r,qc,od⟩:=Mp.1 (gH hu);exact(hc.1 r qc).2 u od
        have iX:=q3 j z yq;rw[kr h5,jz]at iX;refine⟨BI,z,iX,fun X'=>J0 (X:=X) BI ?_ X'⟩;rw[(GC BI).2.2];exact .plain Bc (tc (by cases u<;>simp_all[V.sc,V.plain]))
       ·cases k with
        |zero =>
         simp at hu hz;subst hu;subst hz;rw[q1,← k1];exact .bP id n es.length qM q2 k2.symm
        |succ k=>exact uo X' hh (fun b2 Am=>hm b2 (fun e=>Am (by rw[e];exact h3))) k u z (by simpa using hu) (by simpa using hz)
  ·cases h
 |pos+1,k0,v::vs,us,[],o,h,hl,_=>by simp at hl
 |pos+1,k0,v::vs,us,y::ys,o,h,hl,hr=>by
  simp only[mV]at h;cases hs:v.jV with
  |false=>simp[hs]at h
  |true =>
   simp only[hs,bC]at h;split at h
   ·rename_i m6 o' h'
    simp only[Option.some.injEq,Prod.mk.injEq]at h;obtain⟨rfl,rfl⟩:=h;have ih:=V1 (k0:=k0+1) h' (by simpa using hl) (fun k v z hv hz=>by
     have:=hr (k+1) v z (by simpa using hv) (by simpa using hz)
     rw[show k0+(k+1)=k0+1+k from by omega]at this
     exact this)
    obtain⟨vq,h01⟩:=hr 0 v y rfl rfl;have h0:∀X':Cx,X'.h=X.h→(∀b,X.g.ow b=.tok (k0+0)→X.g.m b≤X'.g.m b)→aZ X' (strip v) y:=fun X' hh hm=>OK hs vq h01 X' hh hm;rw[show k0+1+pos=k0+(pos+1) from by omega]at ih
    cases o' with
    |none =>
     obtain⟨i1,i2⟩:=ih;refine⟨by simp[i1],fun X' hh hm k u z hu hz=>?_⟩
     cases k with
     |zero=>simp at hu hz;subst hu;subst hz;exact h0 X' hh (fun b _=>hm b)
     |succ k=>exact i2 X' hh hm k u z (by simpa using hu) (by simpa using hz)
    |some cs =>
     obtain⟨i1,b,DI,c,e,i2,i3,i4,i5,i6,i7⟩:=ih;refine⟨by simp[i1],b,DI,c,e,i2,i3,i4,i5,i6,fun X' hh hm k1 k2 k u z hu hz=>?_⟩
     cases k with
     |zero=>simp at hu hz;subst hu;subst hz;exact h0 X' hh (fun b2 Am=>hm b2 (fun e=>by rw[e,i3]at Am;injection Am with e2;omega))
     |succ k=>exact i7 X' hh hm k1 k2 k u z (by simpa using hu) (by simpa using hz)
   ·cases h
theorem R.agM(hR:R E g S a w){id b:Nat}(hn:S.eM id)(hm:g.m b=0)(cj:g.ow b=.none)(fU:E.w0.heap.size≤b){c:Array Value}{e:TypeId}(hh:w.heap[b]?=some (.cells c e (0,0)))
  {cs:List V} (eB:∀(j:Nat) (v:V),cs[j]?=some v→v.cI=true∧v.ch id=false∧∃y,c[j]?=some y∧aZ (S.cx g w) v y) {cpn:Nat} (hcpn:cpn≤c.size) :
  ∃g',R E g' { S with aW:=(id,cs)::S.aW } a w∧g'.κ id=b∧g'.cp id=cpn∧g'.m=g.m:=by
 let g':Gh:={ g with κ:=cU g.κ id b,cp:=cU g.cp id cpn,ow:=cU g.ow b (.obj id) }
 have t:Touch E g S w g' S.bf S.ay.length w b (some id) none :=
  {os:=rfl,tape:=rfl,output:=rfl,size:=bR _,heap:=fun _ _ _=>rfl,m:=fun _ _=>rfl,ow:=fun _ hb=>fN _ _ hb,
   κ:=fun i hi=>fN _ _ (fun e=>hi (by rw[e])),cp:=fun i hi=>fN _ _ (fun e=>hi (by rw[e])),τ:=fun _ _=>rfl,T:=fun _ _=>rfl,γ:=fun _ _=>rfl,eD:=bR _,
   γnew:=fun i a b=>absurd a (by omega),fresh:=.inl fU,hY:=fun p q _ e=>by(have e:cU g.ow b (.obj id) b=.cell p q:=e);rw[dF]at e;exact nomatch e
   lv:=fun i e=>by(have e:cU g.ow b (.obj id) b=.ay i:=e);rw[dF]at e;exact nomatch e
   jJ:=fun _ _ _ h=>h,pC:=fun _=>bR _ }
 have lb:∀i,iM (S.cx g w) ⟨w.heap,g',S.ay.length,S.bf⟩ i∨i=id:=fun i=>by
  by_cases hi:i=id
  ·exact .inr hi
  ·exact .inl (t.keeps hR (fun e=>hi (by cases e;rfl)) (fun e=>by cases e) (fun _ e=>by rw[cj]at e;cases e))
 refine⟨g',R.nB t hR rfl rfl (fun i=>(lb i).imp (fun z=>z) fun e=>by rw[e];exact hn) (fun s v hs=>.inl hs) (fun i dQ ho=>?_) (fun f k b hf hb=>.inl ⟨(fun e=>by cases e),fun _ e=>by rw[cj]at e;cases e⟩)
  (fun i o ho=>.inl ⟨ho,fun _=>⟨fun e=>(by rw[cj]at e;cases e),fun _ e=>(by rw[cj]at e;cases e)⟩⟩),dF _ _ _,dF _ _ _,rfl⟩
 rw[dj]at ho;by_cases hi:id=i
 ·subst hi
  rw[aP rfl]at ho;cases ho;refine .inr ⟨?_,?_,?_,c,e,?_,(by show cU g.cp _ _ _≤_;rw[dF];exact hcpn),fun j v hj=>?_⟩
  ·show cU g.ow _ _ (cU g.κ _ _ _)=_;rw[dF,dF]
  ·show _≤cU g.κ _ _ _;rw[dF];exact fU
  ·show g.m (cU g.κ _ _ _)=_;rw[dF];exact hm
  ·show w.heap[cU g.κ _ _ _]?=_;rw[dF];exact hh
  ·obtain⟨q1,q2,y,q3,q4⟩:=eB j v hj
   exact⟨q1,y,q3,q4.mono t.le fun i=>(lb i).imp (fun z=>z) fun e=>by rw[e];exact q2⟩
 ·rw[aA hi]at ho
  exact .inl ⟨ho,fun e=>hi (by cases e;rfl),fun _ e=>by rw[cj]at e;cases e⟩
theorem R.alone(hR:R E g S a w){N:Nat}(hx:Ext w (noCell g) 0 w' g' N)(m':Nat→Nat)(uF:∀b,b<w.heap.size→m' b=g.m b) :
  ∃gn,R E gn S a w'∧gn.m=m'∧∀b p,w.heap.size≤b→g'.ow b=.tok p→gn.ow b=.none:=by
 let g2:Gh:={ g' with m:=m',γ:=g.γ,ow:=fun b=>if b<w.heap.size then g.ow b else match g'.ow b with | .ay _=>.none|q=>q }
 have hold:∀b,b<w.heap.size→w'.heap[b]?=w.heap[b]?∧m' b=g.m b:=fun b hb=>⟨(hx.kI b hb (fun i hi=>absurd hi (by simp)) (C7 g b)).1,uF b hb⟩
 have Ab:Ext w g S.ay.length w' g2 S.ay.length:=⟨hx.os,hx.tape,hx.output,hx.size,bR _,fun _ _=>rfl,fun i a b=>absurd a (by omega),fun b hb _ _=>hold b hb,
  fun b hb _=>⟨fun o y _ hy=>by rw[rU (hold b hb).1];exact hy,tO (hold b hb).2.symm⟩,fun b p q hb h=>⟨p,q,by(have h:(if b<w.heap.size then _ else _)=Ow.cell p q:=h);rw[aP hb]at h;exact h⟩,
  fun b i h hb=>by(have h:(if b<w.heap.size then _ else _)=Ow.ay i:=h);rw[aP hb]at h;exact⟨h,(hR.ay.z b i h).2⟩⟩
 have Nd:∀i o,S.ay[i]?=some o→A8 w'.heap g2 (g2.γ i) o:=fun i o hi=>by
  have h3:=hR.ay.own i o hi;cases o with
  |map es=>trivial
  |cells cs =>
   intro j n es y hj hy;have hy:cellAt w'.heap (g.γ i) j=some y:=hy;rw[rU (hold _ (CZ hR hi (TA hj))).1]at hy;rcases h3 j n es y hj hy with h | ⟨q,cap,c',e',q1,q2,q3,q4,q5,q6⟩
   ·exact .inl h
   ·have oQ:q<w.heap.size:=by
     rcases cF q w.heap.size with h|h
     ·exact h
     ·simp[lU h]at q4
    exact .inr ⟨q,cap,c',e',q1,by show(if q<w.heap.size then _ else _)=_;rw[aP oQ];exact q2,(hold q oQ).2.trans q3,(hold q oQ).1.trans q4,q5,q6⟩
 have Nf:∀b i,g2.ow b=.ay i→g2.m b=0∧i<S.ay.length:=fun b i h=>by
  have h:(if b<w.heap.size then g.ow b else match g'.ow b with | .ay _=>.none|q=>q)=Ow.ay i:=h
  split at h
  ·rename_i hb
   obtain⟨z1,z2⟩:=hR.ay.z b i h;exact⟨(hold b hb).2.trans z1,z2⟩
  ·split at h
   ·cases h
   ·rename_i q hq;exact absurd h (hq i)
 have FO:rW w'.heap g2 S.ay:=⟨fun i o hi=>by
  by_cases h0:o=.cells []
  ·exact .inl h0
  refine .inr ?_;obtain⟨h1,h2⟩:=(hR.ay.obj i o hi).resolve_left h0;have bB:=CZ hR hi h0;obtain⟨q1,q2⟩:=hold _ bB;have le:Le ⟨w.heap,g,S.ay.length,[]⟩ ⟨w'.heap,g2,S.ay.length,[]⟩ :=
   ⟨hx.size,fun b o y ho hy=>by
    have hb:=zK hy;show cellAt w'.heap b o=some y;rw[rU (hold b hb).1];exact hy,fun b hb=>tO (hold b hb).2.symm,bR _,fun _ _=>rfl⟩
  refine⟨by show(if g.γ i<w.heap.size then _ else _)=_;rw[aP bB];exact h1,?_⟩
  cases o with
  |map es =>
   obtain⟨h3,c,e,h4,h5,h6⟩:=h2;refine⟨q2.trans h3,c,e,q1.trans h4,h5,fun j v y hj hy=>?_⟩;obtain⟨h7,h8,h9,fT⟩:=h6 j v y hj hy;exact⟨h7,h8,h9.mono le fun d=>.inr (h7 d),fT.mono le fun d=>.inr (vl (h8 d))⟩
  |cells cs =>
   obtain⟨h3,c,e,h4,h5,h6⟩:=h2;refine⟨q2.trans h3,c,e,q1.trans h4,h5,fun j v y hj hy=>?_⟩;obtain⟨h7,h8,h9⟩:=h6 j v y hj hy;exact⟨h7,h8,h9.mono le fun d=>.inr (h8 d)⟩,Nd,Nf⟩
 have kM:wS ⟨w'.heap,g2,S.ay.length,[]⟩ w.heap.size (jZ g) (.bool true) (.bool true):=by
  refine⟨[.bool true],rfl,rfl,fun p v y hv hy=>?_⟩
  match p with
  |0 =>
   simp[V.fO]at hv hy;subst hv;subst hy;exact⟨.plain (.bool _) (tc rfl),fun _=>rfl,fun f n es e=>by cases e⟩
  |p+1=>simp[V.fO]at hv
 obtain⟨gn,r1,_,r3,r4⟩:=hR.called (reg:=[]) Ab FO kM rfl (fun p f h=>by simp[look]at h)
 refine⟨gn,r1,r3,fun b p hb ho=>r4 b p hb ?_ rfl⟩;show(if b<w.heap.size then _ else _)=_
 rw[aA (by omega),ho]
def St.full(S:St)(id:Nat):Bool:=match look id S.aW with
 |some (_::_)=>true
 |_=>false
theorem V2{id:Nat}{cs:List V}(h:look id S.aW=some cs)(cf:cs≠[]):S.full id=true:=by
 unfold St.full;rw[h];cases cs with
 |nil=>exact absurd rfl cf
 |cons=>rfl
def ql(S:St)(g:Gh)(w:World)(ids:List Nat):Gh :=
 {noCell g with m:=fun b=>if (ids.any fun id=>S.full id&&g.κ id==b)=true then (match w.heap[b]? with|some (.cells c _ _)=>c.size|_=>0) else g.m b }
theorem GD(hR:R E g S a w)(ids:List Nat)(N:Nat):Le ⟨w.heap,g,N,[]⟩ ⟨w.heap,ql S g w ids,N,[]⟩ where
 size:=bR _
 cells:=fun _ _ _ _ h=>h
 m:=fun b _=>by
  show g.m b≤if _ then _ else g.m b
  split
  ·rename_i h
   simp only[EM,bQ,dO]at h;obtain⟨id,_,h1,rfl⟩:=h;unfold St.full at h1;split at h1
   ·rename_i v cs eB
    rw[((hR.aW id _ eB).resolve_left (fun h=>by cases h.1)).2.2.1]
    exact xu _
   ·cases h1
  ·exact bR _
 eD:=bR _
 γ:=fun _ _=>rfl
theorem V3{ids:List Nat}{id:Nat}{c:Array Value}{e:TypeId}{fz:Nat×Nat}(hh:w.heap[g.κ id]?=some (.cells c e fz))(hc:ids.contains id=true)(hf:S.full id=true):(ql S g w ids).m (g.κ id)=c.size:=by
 show(if _ then _ else _)=_
 rw[aP,hh];simp only[EM,bQ,dO];exact⟨id,by simpa using hc,hf,rfl⟩
theorem agN(hR:R E g S a w){ids:List Nat}{id s off n:Nat}{rs:Sh}{u:V}{x:Value}(h:S.zG ids rs id s off n=some u)(hl:aZ (S.cx g w) (.fm id s off n) x):aZ ⟨w.heap,ql S g w ids,0,[]⟩ u x:=by
 unfold St.zG at h;cases hc:ids.contains id with
 |false=>rw[hc]at h;cases h
 |true =>
  rw[hc]at h;simp only[bC]at h;split at h
  ·rename_i cs eB
   cases hle:((s==rs.length)&&Nat.blt 0 rs.length&&Nat.ble (off*rs.length+n*rs.length) cs.length) with
   |false=>rw[hle]at h;cases h
   |true =>
    rw[hle]at h;simp only[bC]at h;split at h
    ·rename_i es lK
     cases h;simp only[bQ,dO]at hle;obtain⟨⟨rfl,gR⟩,hle⟩:=hle;have gR:0<rs.length:=by simpa [A0] using gR
     have hle:=iD hle;obtain⟨cap,en,hx⟩:∃cap,n≤cap∧x=.slice (some ⟨g.κ id,off*rs.length,none⟩) n cap:=by
      cases hl with
      |plain h _=>cases h
      |fm _ _ _ _ cap h=>exact⟨cap,h,rfl⟩
     subst hx;rcases mw n with h0|h0
     ·subst h0
      simp only[chunks,kH,Option.some.injEq]at lK;subst lK;exact .plain (.empty _ _ _ _) (fun _ _ _ e=>by cases e)
     have hpn:=Mw h0 gR;have cf:cs≠[]:=by intro e;subst e;simp at hle;omega
     obtain⟨cj,fU,hm,c,e,hh,_,hj⟩:=(hR.aW id cs eB).resolve_left (fun h=>cf h.1);obtain⟨h1,h2⟩:=MH (X:=S.cx g w) (c:=c) (off:=off*rs.length) (fun j v hv=>(hj j v hv).2) (by omega) lK
     have xz:=V3 (ids:=ids) (S:=S) (g:=g) hh hc (V2 eB cf);have vI:cs.length≤c.size:=by
      rcases cF c.size cs.length with h|h
      ·obtain⟨_,y,hy,_⟩:=hj c.size cs[c.size] (gG h)
       simp at hy
      ·exact h
     have bB:g.κ id<w.heap.size:=by
      rcases cF (g.κ id) w.heap.size with h|h
      ·exact h
      ·simp[lU h]at hh
     rw[←h1];refine .plain (Bf (m:=(ql S g w ids).m) (h2.mono (GD hR ids 0)) bB (by omega) (fun j y hj=>?_) ?_ _) (fun _ _ _ e=>by cases e)
     ·rw[kr hh]
      rw[kn]at hj;split at hj
      ·rw[nT]at hj;simpa using hj
      ·cases hj
     ·show _≤(ql S g w ids).m (g.κ id)
      rw[xz,h1];omega
    ·cases h
  ·cases h
theorem OM(hR:R E g S a w)(ids:List Nat):∀{args:List (Sh×Sh×bp)} {ops:List Operand} {vs:List V},(args.length=ops.length∧∀(i:Nat) rs sh x y,args[i]?=some (rs,sh,x)→ops[i]?=some y→bO y x=true)→kW S ids args=some vs →
  vs.length=ops.length∧∀(i:Nat) (v:V) (x:Value),vs[i]?=some v→(ops.map a.eval)[i]?=some x→aZ ⟨w.heap,ql S g w ids,0,[]⟩ v x
 |[],[],vs,_,h=>by simp[kW]at h;subst h;simp
 |[],_::_,_,h,_=>by simp at h
 |_::_,[],_,h,_=>by simp at h
 |(rs,sh,x)::args,y::ops,vs,bo,h=>by
  simp only[kW]at h;split at h
  ·rename_i u us h1 h2
   cases h;have qf:∀v,S.ev x=some v→aZ (S.cx g w) v (a.eval y):=fun v hv=>cS hR (bo.2 0 rs sh x y (by simp) (by simp)) hv
   have hr:aZ ⟨w.heap,ql S g w ids,0,[]⟩ u (a.eval y):=by
    split at h1
    ·rename_i id s n xB
     unfold St.A4 at h1;cases hc:ids.contains id with
     |false=>rw[hc]at h1;cases h1
     |true =>
      rw[hc]at h1;simp only[bC]at h1;split at h1
      ·rename_i es jK
       cases h1;have hl:=qf _ xB;obtain⟨l7,n',he,hlen,tl⟩:=Fq hR hl jK;cases he;have hz:n=0→aZ ⟨w.heap,ql S g w ids,0,[]⟩ (.slice none rs.length es) (a.eval y):=fun h0=>by
        subst h0;obtain rfl:=bW.1 hlen;refine .plain ?_ (fun _ _ _ e=>by cases e)
        rcases qa hl with⟨cap,_,_,e⟩ | ⟨_,e | ⟨q,e⟩,_⟩
        ·rw[e];exact .empty _ _ _ _
        ·rw[e];exact .nil _ _
        ·rw[e];exact .empty _ _ _ _
       rcases mw n with h0|h0
       ·exact hz h0
       obtain⟨cap,en,hx,c,e,hh,fu,xD,cj,fU,_⟩:=tl.resolve_left (fun h=>by omega)
       have GG:∃cs,look id S.aW=some cs:=by
        unfold St.qH at jK;simp only at jK;split at jK
        ·rename_i cs h;exact⟨cs,h⟩
        ·cases jK
       obtain⟨cs,eB⟩:=GG;have cf:cs≠[]:=by
        intro e;subst e;unfold St.qH at jK;simp only[eB]at jK;have h2:0<rs.length:=by
         rcases mw rs.length with h|h
         ·have h2:Nat.blt 0 rs.length=false:=by rw[h];rfl
          rw[h2]at jK;simp at jK
         ·exact h
        have:=Mw h0 h2;cases hle:Nat.ble (n*rs.length) ([]:List V).length with
        |false=>rw[hle]at jK;simp at jK
        |true =>
         have h3:=iD hle;simp at h3;omega
       have hm:=V3 (ids:=ids) (S:=S) (g:=g) hh hc (V2 eB cf);have bB:g.κ id<w.heap.size:=by
        rcases cF (g.κ id) w.heap.size with h|h
        ·exact h
        ·simp[lU h]at hh
       rw[hx,← hlen];refine .plain (Bf (m:=(ql S g w ids).m) (xD.mono (GD hR ids 0)) bB (by omega) (fun j y hj=>?_) ?_ _) (fun _ _ _ e=>by cases e)
       ·show cellAt w.heap (g.κ id) _=_
        rw[kr hh];rw[kn]at hj;split at hj
        ·simpa using hj
        ·cases hj
       ·show _≤(ql S g w ids).m (g.κ id)
        rw[hm,hlen,jz];exact fu
      ·cases h1
    ·rename_i id s off n xB
     exact agN hR h1 (qf _ xB)
    ·rename_i v _ _ xB
     exact(TL h1 (qf _ xB) 0).mono (GD hR ids 0) (fun d=>.inl ⟨rfl,rfl,fun k hk=>by simp[look]at hk⟩)
    ·cases h1
   obtain⟨e,hx⟩:=OM hR ids (args:=args) (ops:=ops) ⟨by simpa using bo.1,fun i xH xL x' y' hi hj=>bo.2 (i+1) xH xL x' y' (by simpa using hi) (by simpa using hj)⟩ h2
   refine⟨by simp[e],fun i z zz hz sb=>?_⟩
   cases i with
   |zero=>simp at hz sb;subst hz;subst sb;exact hr
   |succ i=>exact hx i z zz (by simpa using hz) (by simpa using sb)
  ·cases h
theorem V4{id:Nat}:∀{pos:Nat} {vs us:List V} {o:Option (List V)},mV id pos vs=some (us,o)→∀v∈vs,v.jV=true
 |_,[],_,_,_,v,hv=>by cases hv
 |0,u::vs,us,o,h,v,hv=>by
  simp only[mV]at h;split at h
  ·rename_i t n es
   cases hc:(es.all (fun r=>r.length==n&&r.all V.sc)&&vs.all V.jV) with
   |false=>rw[hc]at h;cases h
   |true =>
    simp only[bQ]at hc;rcases ko.1 hv with rfl|hv
    ·exact hc.1
    ·exact g9.1 hc.2 v hv
  ·cases h
 |p+1,u::vs,us,o,h,v,hv=>by
  simp only[mV]at h;cases hs:u.jV with
  |false=>rw[hs]at h;cases h
  |true =>
   rw[hs]at h;simp only[bC]at h;split at h
   ·rename_i h'
    rcases ko.1 hv with rfl|hv
    ·exact hs
    ·exact V4 h' v hv
   ·cases h
theorem agO{X X':Cx}{v:V}{y:Value}(h:v.jV=true)(hh:X'.h=X.h)(hm:X'.g.m=X.g.m)(hr:aZ X (strip v) y):aZ X' (strip v) y:=by
 have sc:v.sc=true→aZ X' (strip v) y:=fun hs=>by
  rw[(GC hs).2.2];exact J0 hs hr X'
 cases v with
 |slice t n es =>
  have:aZ X (.slice none n es) y:=hr;cases this with
  |plain h _=>exact .plain (by rw[hh,hm];exact h) (fun _ _ _ e=>by cases e)
 |int|bool|str=>exact sc h
 |_=>simp[V.jV,V.sc]at h
theorem agP{X:Cx}{base q:Nat}{v:V}{y:Value}(h:v.jV=true)(hr:aZ X (strip v) y)(hf:C2 X base (fun _=>False) q v y)(X':Cx)(hh:X'.h=X.h)(hm:∀b,base≤b→X.g.m b≤X'.g.m b):aZ X' (strip v) y:=by
 have vO:C2 ⟨X.h,{ X.g with ow:=fun b=>if base≤b then X.g.ow b else .none },X.N,X.T⟩ base (fun _=>False) q v y:=fun f n es e=>(hf f n es e).imp (fun z=>z) fun⟨b,off,cap,c,e,h1,h2,h3,h4⟩ =>
  ⟨b,off,cap,c,e,h1,h2,by show(if base≤b then X.g.ow b else Ow.none)=_;rw[aP (h2.resolve_right fun h=>h)];exact h3,h4⟩
 have od:aZ ⟨X.h,{ X.g with ow:=fun b=>if base≤b then X.g.ow b else .none },X.N,X.T⟩ (strip v) y:=agO (X:=X) h rfl rfl hr
 exact OK h od vO X' hh fun b hb=>hm b (by
  have hb:(if base≤b then X.g.ow b else Ow.none)=.tok q:=hb
  split at hb
  ·assumption
  ·cases hb)
theorem Nm{o:Oper}{f:Operand}{args:Array Operand}{ts:Array TypeId}{fo:bp}{as:List (Sh×Sh×bp)}{ids:List Nat}{id pos:Nat}{C:br}(ho:o.op=.call ⟨.value f,args,ts⟩)(hf:bO f fo=true)
  (has:as.length=args.toList.length∧∀(i:Nat) rs sh x y,as[i]?=some (rs,sh,x)→args.toList[i]?=some y→bO y x=true)
  (hC:∀f args G r G',C f args G=some (r,G')→uh P E.T f args G r G') (hn:S.eM id)
  (hR:R E g S a w) (hd:∀d,o.dst=some d→d<E.nt) (ah:VO.run C o.dst S (.own fo as ids id pos)=some S'):cd P E o S S' a w:=by
 simp only[VO.run]at ah;split at ah
 ·rename_i m8 vs wT r0
  split at ah
  ·rename_i r G' j0
   have vw:=hC _ _ _ _ _ j0;obtain⟨fn,pJ,vx,pK⟩:=vw.fn;have e1:a.eval f=.func (.func (jb m8)) #[] #[]:=by
    have hr:=cS hR hf wT;generalize a.eval f=y at hr;cases hr with
    |plain h _=>cases h
    |fn _ _ xs hl hx =>
     have:xs = #[]:=by
      apply CC;simpa using hl.symm
     rw[this]
   obtain⟨hl,hx⟩:=OM hR ids has r0;have fh:(execOp a.eval o).run P w=.ok (.enter (jb m8) (args.map a.eval)) w:=by
    simp[execOp,ho,resolve,e1,Deferred.ofValue,invoke,callFunc,pJ];simp at pK;cases hb:fn.body with
    |none=>simp[hb]at vx
    |some c=>simp[pK]
   intro K Q hK;unfold Oper.wp;rw[fh,Oper.upon_enter];have yt:=vw.run w (ql S g w ids) (args.toList.map a.eval) (nW.mono (X:=⟨w.heap,g,0,[]⟩) (X':=⟨w.heap,ql S g w ids,0,[]⟩) (GD hR ids 0) hR.pk) ⟨fun i o h=>by simp at h,fun i o h=>by simp at h,fun b i h=>absurd (Nc g b i h).2 (by omega)⟩ (by simp;simpa using hl) hx
   have wU:(args.toList.map a.eval).toArray=args.map a.eval:=by
    apply mr;simp
   rw[wU]at yt;refine yt.mono fun e w' ⟨x,g',he,hext,hG,kM⟩=>?_;subst he;have ji:∀b,¬ jZ (ql S g w ids) b:=fun b=>C7 g b;have hold:∀b,b<w.heap.size→w'.heap[b]?=w.heap[b]?:=fun b hb=>(hext.kI b hb (fun i hi=>absurd hi (by simp)) (ji b)).1
   let m0:Nat→Nat:=fun b=>if b<w.heap.size then g.m b else g'.m b
   have Ab:Ext w (noCell g) 0 w' { g' with m:=m0 } G'.length :=
    ⟨hext.os,hext.tape,hext.output,hext.size,hext.eD,hext.γ,hext.γnew,fun b hb _ _=>⟨hold b hb,aP hb⟩,fun b hb hw=>absurd hw (C7 g b),fun b p q hb h=>absurd (hext.hY b p q hb h) (ji b),hext.lv⟩
   have hv:∀v cs,jW id pos r=some (v,cs)→∃us ys,OL ⟨w'.heap,{ g' with m:=m0 },G'.length,[]⟩ w.heap.size pos id us ys cs∧∀X':Cx,(∀(k:Nat) (u:V) (y:Value),us[k]?=some u→ys[k]?=some y→aZ X' u y)→aZ X' v x:=fun v cs lg=>by
    obtain⟨ys,p1,p2,p3⟩:=kM;have DB:∀vs us,r.fO=vs→mV id pos vs=some (us,cs)→OL ⟨w'.heap,{ g' with m:=m0 },G'.length,[]⟩ w.heap.size pos id us ys cs:=fun vs us r0 ho=>by
     subst r0;have:=V1 (X:=⟨w'.heap,{ g' with m:=m0 },G'.length,[]⟩) (k0:=0) ho p2.symm (fun k v y hv hy=>by
      obtain⟨q1,_,q3⟩:=p3 k v y hv hy;rw[jz];have q4:C2 ⟨w'.heap,g',G'.length,[]⟩ w.heap.size (fun _=>False) k v y:=fun f n es e=>(q3 f n es e).imp (fun z=>z) fun⟨b,off,cap,c,e,h1,h2,h3⟩=>⟨b,off,cap,c,e,h1,.inl (h2.resolve_right (ji b)),h3⟩;have ec:∀b,w.heap.size≤b→m0 b=g'.m b:=fun b hb=>aA (by omega)
      refine⟨agP (V4 ho v (gH hv)) q1 q4 _ rfl (fun b hb=>tO (ec b hb).symm),fun f n es e=>(q4 f n es e).imp (fun z=>z) fun⟨b,off,cap,c,e,h1,h2,h3,h4,h5⟩=>?_⟩;refine⟨b,off,cap,c,e,h1,h2,h3,?_,h5⟩;show m0 b=_;rw[ec b (h2.resolve_right (fun h=>h))];exact h4)
     rwa [jz]at this
    unfold jW at lg;split at lg
    ·rename_i CS
     split at lg
     ·rename_i us o' J1
      simp only[Option.some.injEq,Prod.mk.injEq]at lg;obtain⟨rfl,rfl⟩:=lg;have hr:=DB _ us rfl J1;refine⟨us,ys,hr,fun X' h=>?_⟩;have hp:x=.tuple ys.toArray:=p1;rw[hp];have hlen:us.length=ys.length:=by cases o'<;>exact hr.1
      exact .tuple _ _ (by simpa using hlen) fun i v y hv hy=>h i v y hv (by simpa using hy)
     ·cases lg
    ·rename_i V5
     split at lg
     ·rename_i u o' J1
      simp only[Option.some.injEq,Prod.mk.injEq]at lg;obtain⟨rfl,rfl⟩:=lg;have V6:∀cs,r≠.agg cs:=fun cs e=>by
       subst e;cases pos<;>simp[mV,V.sc]at J1
      have hc:r.fO=[r]:=by
       cases r<;>first|rfl|(exact absurd rfl (V5 _))|(exact absurd rfl (V6 _))
      have hr:=DB _ [u] hc J1;refine⟨[u],ys,hr,fun X' h=>?_⟩;have hp:ys=[x]:=by
       cases r<;>first|exact p1|(exact absurd rfl (V5 _))|(exact absurd rfl (V6 _))
      exact h 0 u x rfl (by rw[hp];rfl)
     ·cases lg
   split at ah
   ·rename_i v cs lg
    cases ah;obtain⟨us,ys,⟨_,b,DI,c,e,h1,h2,h3,h4,h5,h6⟩,qS⟩:=hv v (some cs) lg;obtain⟨gn,r1,r2,r3⟩:=hR.alone Ab (fun i=>if i=b then 0 else m0 i) (fun i hi=>by
     rw[aA (by omega)]
     exact aP hi)
    obtain⟨gk,k1,k2,k3,k4⟩:=r1.agM (cs:=cs) (cpn:=DI) hn (by rw[r2];exact aP rfl) (r3 b pos h1 h2) (jT hR.same.size h1) h3 (fun j u hu=>by
     obtain⟨q1,y,q2,q3⟩:=h5 j u hu;exact⟨(GC q1).1,(GC q1).2.1 _,y,q2,q3 _⟩) h4
    exact hK gk _ _ (k1.put hd (qS _ (h6 _ rfl (fun b' nC=>by show m0 b'≤gk.m b';rw[k4,r2];simp only[aA nC];exact bR _) k2 k3)))
   ·rename_i v lg
    cases ah;obtain⟨us,ys,⟨_,h1⟩,qS⟩:=hv v none lg;obtain⟨gn,r1,r2,_⟩:=hR.alone Ab m0 (fun i hi=>aP hi);exact hK gn _ _ (r1.put hd (qS _ (h1 _ rfl (fun b=>by show m0 b≤gn.m b;rw[r2];exact bR _))))
   ·cases ah
  ·cases ah
 ·cases ah
theorem ON:∀{as:List (Sh×bp)},kW S [] (as.map fun p=>([],p.1,p.2))=mC S as
 |[]=>rfl
 |(sh,x)::as=>by
  have p1:∀i s n,oN sh (.bP i s n)=none:=fun i s n=>by simp only[oN];split<;>rfl
  have p2:∀i s o n,oN sh (.fm i s o n)=none:=fun i s o n=>by simp only[oN];split<;>rfl
  simp only[nq,kW,mC,ON (as:=as)];rcases S.ev x with _|v
  ·rfl
  ·cases v<;>first|rfl|(simp only[p1,p2,St.A4,St.zG];rfl)
theorem aeK{o:Oper}{f:Operand}{args:Array Operand}{ts:Array TypeId}{fo:bp}{as:List (Sh×bp)}{id:Nat}{C:br}(ho:o.op=.call ⟨.value f,args,ts⟩)(hf:bO f fo=true)
  (has:as.length=args.toList.length∧∀(i:Nat) sh x y,as[i]?=some (sh,x)→args.toList[i]?=some y→bO y x=true)
  (hC:∀f args G r G',C f args G=some (r,G')→uh P E.T f args G r G') (hn:S.eM id) (agQ:o.dst.isSome=true)
  (hR:R E g S a w) (hd:∀d,o.dst=some d→d<E.nt) (ah:VO.run C o.dst S (.qG fo as id)=some S'):cd P E o S S' a w:=by
 obtain⟨dd,DK⟩:=My.1 agQ;simp only[VO.run]at ah;split at ah
 ·rename_i m8 vs wT r0
  split at ah
  ·rename_i r G' j0
   have uq:∀S0:St,(∀s v,s≠dd→look s S.env=some v→look s S0.env=some v)→(∀i cs,look i S.aW=some cs→look i S0.aW=some cs)→S0.bf=S.bf→S0.ay=S.ay →
     nH ({ S with env:=S.env.filter fun p => !(p.1==dd) }:St) S0:=fun S0 h1 h2 h3 h4=>by
    refine⟨fun s v e=>?_,h2,fun f k e=>by rw[h3];exact e,h4.symm⟩
    simp only[mG]at e;split at e
    ·cases e
    ·rename_i cf;exact h1 s v cf e
   have hnf:({ S with env:=S.env.filter fun p => !(p.1==dd) }:St).eM id:=NN.eM hn;have fin:∀{g1:Gh} {a1:Act} {w1:World} {G1:List aT} {x:Value} {u:V},R E g1 { S with env:=S.env.filter fun p => !(p.1==dd),ay:=G1 } a1 w1→a1.tmps[dd]?=some x→aZ (({ S with ay:=G1 }:St).cx g1 w1) u x →
     R E g1 (({ S with ay:=G1 }:St).put (some dd) u) a1 w1:=fun {g1 a1 w1 G1 x u} r hx hr=>by
    refine⟨fun s v hs=>?_,r.aW,r.bf,r.ay,r.defers,r.jg,r.same⟩;rw[CN,dj]at hs;split at hs
    ·rename_i e;subst e;cases hs;exact⟨x,hx,hr⟩
    ·rename_i cf
     refine r.env s v ?_;show look s (S.env.filter fun p => !(p.1==dd))=some v;rw[mG,aA (fun e=>cf e.symm)];exact hs
   split at ah
   ·rename_i l7 n len cs lg
    cases hc:(l7==id&&Nat.blt 0 cs.length&&Nat.blt 0 len&&cs.all V.sc) with
    |false=>simp[hc]at ah
    |true =>
    simp only[hc,bC]at ah;simp only[bQ,dO,g9]at hc;obtain⟨⟨⟨m7,gR⟩,hlen⟩,BI⟩:=hc;have gR:0<cs.length:=by simpa [A0] using gR
    have hlen:0<len:=by simpa [A0] using hlen
    cases ah;subst m7;have OO:=Nm (id:=l7) (pos:=0) (S':={ S with aW:=(l7,cs)::S.aW }.put o.dst (.bP l7 n len)) (as:=as.map fun p=>([],p.1,p.2)) (ids:=[]) ho hf ⟨by simpa using has.1,fun i rs sh x y h1 h2=>by simp at h1;obtain⟨a,b,h1,_,rfl,rfl⟩:=h1;exact has.2 i a b y h1 h2⟩ hC hn hR hd (by simp only[VO.run,wT,ON,r0,j0,lg])
    intro K Q hK;refine OO K Q fun g1 a1 w1 eZ=>?_;rw[DK,CN]at eZ;obtain⟨x,hx,hr⟩:=eZ.env dd (.bP l7 n len) (by show look dd ((dd,V.bP l7 n len)::S.env)=_;rw[dj,aP rfl])
    have ff:=eZ.aW l7 cs (by show look l7 ((l7,cs)::S.aW)=_;rw[dj,aP rfl])
    have wX:R E g1 { S with env:=S.env.filter fun p => !(p.1==dd) } a1 w1:=eZ.less (uq _ (fun s v cf h=>by show look s ((dd,V.bP l7 n len)::S.env)=_;rw[dj,aA (fun e=>cf e.symm)];exact h)
     (fun i dQ h=>by show look i ((l7,cs)::S.aW)=_;rw[dj,aA (fun e=>by subst e;rw[hn.obj]at h;cases h)];exact h) rfl rfl)
    rcases ff with⟨rfl,vq⟩ | ⟨cj,fU,hm,c,e,hh,fJ,hj⟩
    ·simp at gR
    ·obtain⟨cap,en,vI,hxe⟩:∃cap,len≤cap∧cap*n=g1.cp l7∧x=.slice (some ⟨g1.κ l7,0,none⟩) len cap:=by
      rcases qa hr with h | ⟨h1,h2,h3⟩
      ·exact h
      ·omega
     obtain⟨g2,r1,r2,_⟩:=wX.NO (n:=n) hnf cj fU hm hh hxe en (us:=cs) (fun j v hv=>by
      obtain⟨_,y,hy,qf⟩:=hj j v hv;have hs:=BI v (gH hv);refine⟨by cases v<;>simp_all[V.sc,V.plain],y,hy,?_⟩
      cases v<;>simp[V.sc]at hs<;>(cases qf with|plain h _=>exact h))
     exact hK g2 _ _ (by rw[DK];exact fin r1 hx r2)
   ·rename_i n lg
    cases ah;have OO:=Nm (id:=id) (pos:=0) (S':=S.put o.dst (.dX n)) (as:=as.map fun p=>([],p.1,p.2)) (ids:=[]) ho hf ⟨by simpa using has.1,fun i rs sh x y h1 h2=>by simp at h1;obtain⟨a,b,h1,_,rfl,rfl⟩:=h1;exact has.2 i a b y h1 h2⟩ hC hn hR hd (by simp only[VO.run,wT,ON,r0,j0,lg])
    intro K Q hK;refine OO K Q fun g1 a1 w1 eZ=>?_;rw[DK,CN]at eZ;obtain⟨g2,r1⟩:=Jy (n:=n) eZ (s:=dd) (v:=.dX n) (by show look dd ((dd,V.dX n)::S.env)=_;rw[dj,aP rfl]) (fun x hx=>ta hx)
    refine hK g2 _ _ ?_;rw[DK];refine⟨fun s v hs=>?_,r1.aW,r1.bf,r1.ay,r1.defers,r1.jg,r1.same⟩;rw[CN,dj]at hs;refine r1.env s v ?_;show look s ((dd,V.da S.ay.length n 0)::(dd,V.dX n)::S.env)=some v;rw[dj];split at hs
    ·rename_i e;rw[aP e];exact hs
    ·rename_i e;rw[aA e,dj,aA e];exact hs
   ·cases ah
  ·cases ah
 ·cases ah
theorem aeL{o:Oper}{f:Operand}{args:Array Operand}{ts:Array TypeId}{fo:bp}{as:List (Sh×Sh×bp)}{ids:List Nat}{C:br}(ho:o.op=.call ⟨.value f,args,ts⟩)(hf:bO f fo=true)
  (has:as.length=args.toList.length∧∀(i:Nat) rs sh x y,as[i]?=some (rs,sh,x)→args.toList[i]?=some y→bO y x=true)
  (hC:∀f args G r G',C f args G=some (r,G')→uh P E.T f args G r G')
  (hR:R E g S a w) (hd:∀d,o.dst=some d→d<E.nt) (ah:VO.run C o.dst S (.qF fo as ids)=some S'):cd P E o S S' a w:=by
 simp only[VO.run]at ah;split at ah
 ·rename_i m8 vs wT r0
  split at ah
  ·rename_i r G' j0
   cases BJ:r.pz with
   |false=>rw[BJ]at ah;cases ah
   |true =>
   rw[BJ]at ah;simp only[bC,Option.some.injEq]at ah;subst ah;have vw:=hC _ _ _ _ _ j0;obtain⟨fn,pJ,vx,pK⟩:=vw.fn;have e1:a.eval f=.func (.func (jb m8)) #[] #[]:=by
    have hr:=cS hR hf wT;generalize a.eval f=y at hr;cases hr with
    |plain h _=>cases h
    |fn _ _ xs hl hx =>
     have:xs = #[]:=by
      apply CC;simpa using hl.symm
     rw[this]
   obtain⟨hl,hx⟩:=OM hR ids has r0;have fh:(execOp a.eval o).run P w=.ok (.enter (jb m8) (args.map a.eval)) w:=by
    simp[execOp,ho,resolve,e1,Deferred.ofValue,invoke,callFunc,pJ];simp at pK;cases hb:fn.body with
    |none=>simp[hb]at vx
    |some c=>simp[pK]
   intro K Q hK;unfold Oper.wp;rw[fh,Oper.upon_enter];have yt:=vw.run w (ql S g w ids) (args.toList.map a.eval) (nW.mono (X:=⟨w.heap,g,0,[]⟩) (X':=⟨w.heap,ql S g w ids,0,[]⟩) (GD hR ids 0) hR.pk) ⟨fun i o h=>by simp at h,fun i o h=>by simp at h,fun b i h=>absurd (Nc g b i h).2 (by omega)⟩ (by simp;simpa using hl) hx
   have wU:(args.toList.map a.eval).toArray=args.map a.eval:=by
    apply mr;simp
   rw[wU]at yt;refine yt.mono fun e w' ⟨x,g',he,hext,hG,kM⟩=>?_;subst he;have ji:∀b,¬ jZ (ql S g w ids) b:=fun b=>C7 g b;have hold:∀b,b<w.heap.size→w'.heap[b]?=w.heap[b]?:=fun b hb=>(hext.kI b hb (fun i hi=>absurd hi (by simp)) (ji b)).1
   let m':Nat→Nat:=fun b=>if b<w.heap.size then g.m b else g'.m b
   have Ab:Ext w (noCell g) 0 w' { g' with m:=m' } G'.length :=
    ⟨hext.os,hext.tape,hext.output,hext.size,hext.eD,hext.γ,hext.γnew,fun b hb _ _=>⟨hold b hb,aP hb⟩,fun b hb hw=>absurd hw (C7 g b),fun b p q hb h=>absurd (hext.hY b p q hb h) (ji b),hext.lv⟩
   obtain⟨gn,r1,_,_⟩:=hR.alone Ab m' (fun b hb=>aP hb);refine hK gn _ _ (r1.put hd ?_);obtain⟨ys,p1,p2,p3⟩:=kM;have sc:∀(k:Nat) (v:V) (y:Value),r.fO[k]?=some v→v.sc=true→ys[k]?=some y→aZ (S.cx gn w') v y:=fun k v y hv hs hy=>J0 hs (p3 k v y hv hy).1 _;cases r with
   |tuple vs =>
    simp only[V.pz,g9]at BJ;have hp:x=.tuple ys.toArray:=p1;rw[hp];exact .tuple _ _ (by have:=p2;simp[V.fO]at this;simpa using this.symm) fun i v y hv hy=>sc i v y hv (BJ v (gH hv)) (by simpa using hy)
   |agg vs =>
    simp only[V.pz,g9]at BJ;have hp:x=.agg ys.toArray:=p1;rw[hp];exact .agg _ _ (by have:=p2;simp[V.fO]at this;simpa using this.symm) fun i v y hv hy=>sc i v y hv (BJ v (gH hv)) (by simpa using hy)
   |_ =>
    have hp:ys=[x]:=p1;exact sc 0 _ x rfl BJ (by rw[hp];rfl)
  ·cases ah
 ·cases ah
end
end Go.Vm
