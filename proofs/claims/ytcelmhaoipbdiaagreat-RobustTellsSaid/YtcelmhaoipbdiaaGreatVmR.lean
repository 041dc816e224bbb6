/- The value machine: results that become the caller's own. -/
import Derived.Test.YtcelmhaoipbdiaaGreatVmQ
import Derived.Test.YtcelmhaoipbdiaaGreatVmV
namespace Go.Vm
set_option linter.all false
section
variable {P:Program} {E:Entry} {g g':Gh} {S S':St} {a:Act} {w w':World}
theorem Mp{X:Cx}{v:V}{y:Value}(h:v.sc=true)(hr:bf X (strip v) y)(X':Cx):bf X' v y:=by
 cases v<;>simp[V.sc]at h
 ·rw[nh hr];exact .plain (.int _ _) (uI rfl)
 ·rw[Bt hr];exact .plain (.bool _) (uI rfl)
 ·obtain⟨z,rfl,e⟩:=bf.B0 hr
  subst e;exact .plain (.str _) (uI rfl)
theorem IM{v:V}(h:v.sc=true):v.cQ=true∧(∀d,v.cA d=false)∧strip v=v:=by
 cases v<;>simp[V.sc]at h<;>exact⟨rfl,fun _=>rfl,rfl⟩
theorem RR{X:Cx}{base q:Nat}{v:V}{y:Value}(h:v.kB=true)(hr:bf X (strip v) y)(hf:E9 X base (fun _=>False) q v y)(X':Cx)(hh:X'.h=X.h)(hm:∀b,X.g.ow b=.tok q→X.g.m b≤X'.g.m b):bf X' (strip v) y:=by
 have sc:v.sc=true→bf X' (strip v) y:=fun hs=>by
  rw[(IM hs).2.2];exact Mp hs hr X'
 cases v with
 |slice t n es =>
  cases t with
  |none=>simp[V.kB,V.sc]at h
  |some t =>
   simp only[V.kB,iL,b8,eg]at h;have hv:fF X.h X.g.m (.slice none n es) y:=by
    have:bf X (.slice none n es) y:=hr;cases this with|plain h _=>exact h
   have go:fF X'.h X'.g.m (.slice none n es) y:=by
    cases hv with
    |nil=>exact .nil _ _
    |empty _ _ a cap=>exact .empty _ _ a cap
    |slice _ _ _ b off cap ys hb eK jc hc HY hp zO =>
     by_cases he:es=[]
     ·subst he
      exact .empty _ _ _ cap
     rcases hf t n es rfl with⟨e,_⟩ | ⟨b',off',sU,c,e,h1,_,h3,_,_,_,_,_⟩
     ·exact absurd e he
     ·injection h1 with h1 _ _
      injection h1 with h1;injection h1 with h4 h5 _;subst h4;refine .slice none n es b off cap ys (by rw[hh];exact hb) eK jc (fun i row j v hi hj=>by rw[hh];exact hc i row j v hi hj) (fun i row j v hi hj=>?_) hp (kL zO (hm b h3))
      have hs:=(h row (g9 hi)).2 v (g9 hj);have h6:=HY i row j v hi hj;generalize ys i j=z at h6 ⊢;cases v<;>simp[V.sc]at hs
      ·cases h6;exact .int _ _
      ·cases h6;exact .bool _
      ·cases h6;exact .str _
   exact .plain go (fun _ _ _ e=>by cases e)
 |_=>exact sc (by simpa [V.kB] using h)
def RS(X:Cx)(base p id:Nat)(us:List V)(ys:List Value):Option (List V)→Prop
 |none=>us.length=ys.length∧∀(X':Cx),X'.h=X.h→(∀b,X.g.m b≤X'.g.m b)→∀(k:Nat) (u:V) (y:Value),us[k]?=some u→ys[k]?=some y→bf X' u y
 |some cs=>us.length=ys.length∧∃b FM c e,base≤b∧X.g.ow b=.tok p∧X.h[b]?=some (.cells c e (0,0))∧FM≤c.size ∧
   (∀(j:Nat) (u:V),cs[j]?=some u→u.sc=true∧∃y,c[j]?=some y∧∀X':Cx,bf X' u y) ∧
   ∀X':Cx,X'.h=X.h→(∀b',b'≠b→X.g.m b'≤X'.g.m b')→X'.g.κ id=b→X'.g.cp id=FM→∀(k:Nat) (u:V) (y:Value),us[k]?=some u→ys[k]?=some y→bf X' u y
theorem ZH{X:Cx}{base id:Nat}:∀{pos k0:Nat} {vs us:List V} {ys:List Value} {o:Option (List V)},nZ id pos vs=some (us,o)→vs.length=ys.length →
  (∀(k:Nat) (v:V) (y:Value),vs[k]?=some v→ys[k]?=some y→bf X (strip v) y∧E9 X base (fun _=>False) (k0+k) v y)→RS X base (k0+pos) id us ys o
 |_,_,[],_,_,_,h,_,_=>by cases ‹Nat› <;> simp[nZ]at h
 |0,_,_::_,_,[],_,_,hl,_=>by simp at hl
 |0,k0,v::vs,us,y::ys,o,h,hl,hr=>by
  simp only[nZ]at h;split at h
  ·rename_i t n es
   cases hc:(es.all (fun r=>r.length==n&&r.all V.sc)&&vs.all V.kB) with
   |false=>simp[hc]at h
   |true =>
    simp only[hc,bM]at h;simp only[b8,iL,eg]at hc;obtain⟨h0,hf⟩:=hr 0 _ y rfl rfl;have vV:∀(X':Cx),X'.h=X.h→(∀b,X.g.ow b≠.tok k0→X.g.m b≤X'.g.m b)→∀(k:Nat) (u:V) (z:Value),(vs.map strip)[k]?=some u→ys[k]?=some z→bf X' u z:=fun X' hh hm k u z hu hz=>by
     rw[vp]at hu;cases hk:vs[k]? with
     |none=>simp[hk]at hu
     |some u0 =>
      simp[hk]at hu;subst hu;obtain⟨q1,q2⟩:=hr (k+1) u0 z (by simpa using hk) (by simpa using hz)
      exact RR (hc.2 u0 (g9 hk)) q1 q2 X' hh (fun b hb=>hm b (fun e=>by rw[hb]at e;injection e with e;omega))
    cases he:es.isEmpty with
    |true =>
     simp only[he,bM,Option.some.injEq,Prod.mk.injEq]at h;obtain⟨rfl,rfl⟩:=h;have he:es=[]:=by simpa using he
     subst he;refine⟨by simpa using hl,fun X' hh hm k u z hu hz=>?_⟩
     cases k with
     |zero =>
      simp at hu hz;subst hu;subst hz;rcases hf t n [] rfl with⟨_,e⟩ | ⟨b,off,cap,c,e,_,_,_,_,_,_,_,h9⟩
      ·exact .ea e
      ·simp at h9
     |succ k=>exact vV X' hh (fun b _=>hm b) k u z (by simpa using hu) (by simpa using hz)
    |false =>
     simp only[he,fu,Option.some.injEq,Prod.mk.injEq]at h;obtain⟨rfl,rfl⟩:=h;have cq:es≠[]:=by intro e;subst e;simp at he
     rcases hf t n es rfl with⟨e,_⟩ | ⟨b,off,cap,c,e,h1,h2,h3,_,h5,h6,h7,_⟩
     ·exact absurd e cq
     ·subst h7
      have hv:fF X.h X.g.m (.slice none n es) y:=by
       have:bf X (.slice none n es) y:=h0;cases this with|plain h _=>exact h
      rcases Lf hv with⟨e,_⟩ | ⟨e,_⟩ | ⟨b',off',sU,l,q1,q2,q3,q4⟩
      ·exact absurd e cq
      ·exact absurd e cq
      ·rw[q1]at h1
       injection h1 with r1 r2 r3;injection r1 with r1;injection r1 with r4 r5 r6;subst r4;subst r5;subst r3;obtain⟨f1,f2⟩:=Ae q4;refine⟨by simpa using hl,b',sU*n,c,e,h2.resolve_right (fun h=>h),h3,h5,by omega,fun j u hu=>?_,fun X' hh hm k1 k2 k u z hu hz=>?_⟩
       ·obtain⟨_,z,Aw,C7⟩:=f2 j u hu
        have DI:u.sc=true:=by
         obtain⟨r,qj,lh⟩:=Pq.1 (g9 hu);exact(hc.1 r qj).2 u lh
        have jT:=q3 j z Aw;rw[lP h5,kz]at jT;refine⟨DI,z,jT,fun X'=>Mp (X:=X) DI ?_ X'⟩;rw[(IM DI).2.2];exact .plain C7 (uI (by cases u<;>simp_all[V.sc,V.plain]))
       ·cases k with
        |zero =>
         simp at hu hz;subst hu;subst hz;rw[q1,← k1];exact .bR id n es.length sU q2 k2.symm
        |succ k=>exact vV X' hh (fun b2 Ay=>hm b2 (fun e=>Ay (by rw[e];exact h3))) k u z (by simpa using hu) (by simpa using hz)
  ·cases h
 |pos+1,k0,v::vs,us,[],o,h,hl,_=>by simp at hl
 |pos+1,k0,v::vs,us,y::ys,o,h,hl,hr=>by
  simp only[nZ]at h;cases hs:v.kB with
  |false=>simp[hs]at h
  |true =>
   simp only[hs,bM]at h;split at h
   ·rename_i l8 o' h'
    simp only[Option.some.injEq,Prod.mk.injEq]at h;obtain⟨rfl,rfl⟩:=h;have ih:=ZH (k0:=k0+1) h' (by simpa using hl) (fun k v z hv hz=>by
     have:=hr (k+1) v z (by simpa using hv) (by simpa using hz)
     rw[show k0+(k+1)=k0+1+k from by omega]at this
     exact this)
    obtain⟨w5,h01⟩:=hr 0 v y rfl rfl;have h0:∀X':Cx,X'.h=X.h→(∀b,X.g.ow b=.tok (k0+0)→X.g.m b≤X'.g.m b)→bf X' (strip v) y:=fun X' hh hm=>RR hs w5 h01 X' hh hm;rw[show k0+1+pos=k0+(pos+1) from by omega]at ih
    cases o' with
    |none =>
     obtain⟨i1,i2⟩:=ih;refine⟨by simp[i1],fun X' hh hm k u z hu hz=>?_⟩
     cases k with
     |zero=>simp at hu hz;subst hu;subst hz;exact h0 X' hh (fun b _=>hm b)
     |succ k=>exact i2 X' hh hm k u z (by simpa using hu) (by simpa using hz)
    |some cs =>
     obtain⟨i1,b,FM,c,e,i2,i3,i4,i5,i6,i7⟩:=ih;refine⟨by simp[i1],b,FM,c,e,i2,i3,i4,i5,i6,fun X' hh hm k1 k2 k u z hu hz=>?_⟩
     cases k with
     |zero=>simp at hu hz;subst hu;subst hz;exact h0 X' hh (fun b2 Ay=>hm b2 (fun e=>by rw[e,i3]at Ay;injection Ay with e2;omega))
     |succ k=>exact i7 X' hh hm k1 k2 k u z (by simpa using hu) (by simpa using hz)
   ·cases h
theorem R.alY(hR:R E g S a w){id b:Nat}(hn:S.fb id)(hm:g.m b=0)(cB:g.ow b=.none)(gN:E.w0.heap.size≤b){c:Array Value}{e:TypeId}(hh:w.heap[b]?=some (.cells c e (0,0)))
  {cs:List V} (eX:∀(j:Nat) (v:V),cs[j]?=some v→v.cQ=true∧v.cA id=false∧∃y,c[j]?=some y∧bf (S.cx g w) v y) {cpn:Nat} (hcpn:cpn≤c.size) :
  ∃g',R E g' { S with aZ:=(id,cs)::S.aZ } a w∧g'.κ id=b∧g'.cp id=cpn∧g'.m=g.m:=by
 let g':Gh:={ g with κ:=df g.κ id b,cp:=df g.cp id cpn,ow:=df g.ow b (.obj id) }
 have t:Touch E g S w g' S.bl S.aD.length w b (some id) none :=
  {os:=rfl,tape:=rfl,output:=rfl,size:=bY _,heap:=fun _ _ _=>rfl,m:=fun _ _=>rfl,ow:=fun _ hb=>gC _ _ hb,
   κ:=fun i hi=>gC _ _ (fun e=>hi (by rw[e])),cp:=fun i hi=>gC _ _ (fun e=>hi (by rw[e])),τ:=fun _ _=>rfl,T:=fun _ _=>rfl,γ:=fun _ _=>rfl,eW:=bY _,
   γnew:=fun i a b=>absurd a (by omega),fresh:=.inl gN,iW:=fun p q _ e=>by(have e:df g.ow b (.obj id) b=.cell p q:=e);rw[dS]at e;exact nomatch e
   lv:=fun i e=>by(have e:df g.ow b (.obj id) b=.aD i:=e);rw[dS]at e;exact nomatch e
   kN:=fun _ _ _ h=>h,qH:=fun _=>bY _ }
 have mz:∀i,jB (S.cx g w) ⟨w.heap,g',S.aD.length,S.bl⟩ i∨i=id:=fun i=>by
  by_cases hi:i=id
  ·exact .inr hi
  ·exact .inl (t.keeps hR (fun e=>hi (by cases e;rfl)) (fun e=>by cases e) (fun _ e=>by rw[cB]at e;cases e))
 refine⟨g',R.oQ t hR rfl rfl (fun i=>(mz i).imp (fun z=>z) fun e=>by rw[e];exact hn) (fun s v hs=>.inl hs) (fun i ei ho=>?_) (fun f k b hf hb=>.inl ⟨(fun e=>by cases e),fun _ e=>by rw[cB]at e;cases e⟩)
  (fun i o ho=>.inl ⟨ho,fun _=>⟨fun e=>(by rw[cB]at e;cases e),fun _ e=>(by rw[cB]at e;cases e)⟩⟩),dS _ _ _,dS _ _ _,rfl⟩
 rw[dL]at ho;by_cases hi:id=i
 ·subst hi
  rw[aK rfl]at ho;cases ho;refine .inr ⟨?_,?_,?_,c,e,?_,(by show df g.cp _ _ _≤_;rw[dS];exact hcpn),fun j v hj=>?_⟩
  ·show df g.ow _ _ (df g.κ _ _ _)=_;rw[dS,dS]
  ·show _≤df g.κ _ _ _;rw[dS];exact gN
  ·show g.m (df g.κ _ _ _)=_;rw[dS];exact hm
  ·show w.heap[df g.κ _ _ _]?=_;rw[dS];exact hh
  ·obtain⟨q1,q2,y,q3,q4⟩:=eX j v hj
   exact⟨q1,y,q3,q4.mono t.le fun i=>(mz i).imp (fun z=>z) fun e=>by rw[e];exact q2⟩
 ·rw[av hi]at ho
  exact .inl ⟨ho,fun e=>hi (by cases e;rfl),fun _ e=>by rw[cB]at e;cases e⟩
theorem R.alone(hR:R E g S a w){N:Nat}(hx:Ext w (noCell g) 0 w' g' N)(m':Nat→Nat)(wc:∀b,b<w.heap.size→m' b=g.m b) :
  ∃gn,R E gn S a w'∧gn.m=m'∧∀b p,w.heap.size≤b→g'.ow b=.tok p→gn.ow b=.none:=by
 let g2:Gh:={ g' with m:=m',γ:=g.γ,ow:=fun b=>if b<w.heap.size then g.ow b else match g'.ow b with | .aD _=>.none|q=>q }
 have hold:∀b,b<w.heap.size→w'.heap[b]?=w.heap[b]?∧m' b=g.m b:=fun b hb=>⟨(hx.l7 b hb (fun i hi=>absurd hi (by simp)) (Fg g b)).1,wc b hb⟩
 have BM:Ext w g S.aD.length w' g2 S.aD.length:=⟨hx.os,hx.tape,hx.output,hx.size,bY _,fun _ _=>rfl,fun i a b=>absurd a (by omega),fun b hb _ _=>hold b hb,
  fun b hb _=>⟨fun o y _ hy=>by rw[tE (hold b hb).1];exact hy,vq (hold b hb).2.symm⟩,fun b p q hb h=>⟨p,q,by(have h:(if b<w.heap.size then _ else _)=Ow.cell p q:=h);rw[aK hb]at h;exact h⟩,
  fun b i h hb=>by(have h:(if b<w.heap.size then _ else _)=Ow.aD i:=h);rw[aK hb]at h;exact⟨h,(hR.aD.z b i h).2⟩⟩
 have Qj:∀i o,S.aD[i]?=some o→C3 w'.heap g2 (g2.γ i) o:=fun i o hi=>by
  have h3:=hR.aD.own i o hi;cases o with
  |map es=>trivial
  |cells cs =>
   intro j n es y hj hy;have hy:cellAt w'.heap (g.γ i) j=some y:=hy;rw[tE (hold _ (E6 hR hi (Xt hj))).1]at hy;rcases h3 j n es y hj hy with h | ⟨q,cap,c',e',q1,q2,q3,q4,q5,q6⟩
   ·exact .inl h
   ·have oO:q<w.heap.size:=by
     rcases cM q w.heap.size with h|h
     ·exact h
     ·simp[nb h]at q4
    exact .inr ⟨q,cap,c',e',q1,by show(if q<w.heap.size then _ else _)=_;rw[aK oO];exact q2,(hold q oO).2.trans q3,(hold q oO).1.trans q4,q5,q6⟩
 have Qk:∀b i,g2.ow b=.aD i→g2.m b=0∧i<S.aD.length:=fun b i h=>by
  have h:(if b<w.heap.size then g.ow b else match g'.ow b with | .aD _=>.none|q=>q)=Ow.aD i:=h
  split at h
  ·rename_i hb
   obtain⟨z1,z2⟩:=hR.aD.z b i h;exact⟨(hold b hb).2.trans z1,z2⟩
  ·split at h
   ·cases h
   ·rename_i q hq;exact absurd h (hq i)
 have H6:tF w'.heap g2 S.aD:=⟨fun i o hi=>by
  by_cases h0:o=.cells []
  ·exact .inl h0
  refine .inr ?_;obtain⟨h1,h2⟩:=(hR.aD.obj i o hi).resolve_left h0;have bI:=E6 hR hi h0;obtain⟨q1,q2⟩:=hold _ bI;have le:Le ⟨w.heap,g,S.aD.length,[]⟩ ⟨w'.heap,g2,S.aD.length,[]⟩ :=
   ⟨hx.size,fun b o y ho hy=>by
    have hb:=Bs hy;show cellAt w'.heap b o=some y;rw[tE (hold b hb).1];exact hy,fun b hb=>vq (hold b hb).2.symm,bY _,fun _ _=>rfl⟩
  refine⟨by show(if g.γ i<w.heap.size then _ else _)=_;rw[aK bI];exact h1,?_⟩
  cases o with
  |map es =>
   obtain⟨h3,c,e,h4,h5,h6⟩:=h2;refine⟨q2.trans h3,c,e,q1.trans h4,h5,fun j v y hj hy=>?_⟩;obtain⟨h7,h8,h9,gf⟩:=h6 j v y hj hy;exact⟨h7,h8,h9.mono le fun d=>.inr (h7 d),gf.mono le fun d=>.inr (wW (h8 d))⟩
  |cells cs =>
   obtain⟨h3,c,e,h4,h5,h6⟩:=h2;refine⟨q2.trans h3,c,e,q1.trans h4,h5,fun j v y hj hy=>?_⟩;obtain⟨h7,h8,h9⟩:=h6 j v y hj hy;exact⟨h7,h8,h9.mono le fun d=>.inr (h8 d)⟩,Qj,Qk⟩
 have mc:yB ⟨w'.heap,g2,S.aD.length,[]⟩ w.heap.size (lp g) (.bool true) (.bool true):=by
  refine⟨[.bool true],rfl,rfl,fun p v y hv hy=>?_⟩
  match p with
  |0 =>
   simp[V.gD]at hv hy;subst hv;subst hy;exact⟨.plain (.bool _) (uI rfl),fun _=>rfl,fun f n es e=>by cases e⟩
  |p+1=>simp[V.gD]at hv
 obtain⟨gn,r1,_,r3,r4⟩:=hR.called (reg:=[]) BM H6 mc rfl (fun p f h=>by simp[look]at h)
 refine⟨gn,r1,r3,fun b p hb ho=>r4 b p hb ?_ rfl⟩;show(if b<w.heap.size then _ else _)=_
 rw[av (by omega),ho]
def St.full(S:St)(id:Nat):Bool:=match look id S.aZ with
 |some (_::_)=>true
 |_=>false
theorem ZI{id:Nat}{cs:List V}(h:look id S.aZ=some cs)(cq:cs≠[]):S.full id=true:=by
 unfold St.full;rw[h];cases cs with
 |nil=>exact absurd rfl cq
 |cons=>rfl
def sd(S:St)(g:Gh)(w:World)(ids:List Nat):Gh :=
 {noCell g with m:=fun b=>if (ids.any fun id=>S.full id&&g.κ id==b)=true then (match w.heap[b]? with|some (.cells c _ _)=>c.size|_=>0) else g.m b }
theorem IN(hR:R E g S a w)(ids:List Nat)(N:Nat):Le ⟨w.heap,g,N,[]⟩ ⟨w.heap,sd S g w ids,N,[]⟩ where
 size:=bY _
 cells:=fun _ _ _ _ h=>h
 m:=fun b _=>by
  show g.m b≤if _ then _ else g.m b
  split
  ·rename_i h
   simp only[Be,b8,eg]at h;obtain⟨id,_,h1,rfl⟩:=h;unfold St.full at h1;split at h1
   ·rename_i v cs eX
    rw[((hR.aZ id _ eX).resolve_left (fun h=>by cases h.1)).2.2.1]
    exact xZ _
   ·cases h1
  ·exact bY _
 eW:=bY _
 γ:=fun _ _=>rfl
theorem ZJ{ids:List Nat}{id:Nat}{c:Array Value}{e:TypeId}{fz:Nat×Nat}(hh:w.heap[g.κ id]?=some (.cells c e fz))(hc:ids.contains id=true)(hf:S.full id=true):(sd S g w ids).m (g.κ id)=c.size:=by
 show(if _ then _ else _)=_
 rw[aK,hh];simp only[Be,b8,eg];exact⟨id,by simpa using hc,hf,rfl⟩
theorem alZ(hR:R E g S a w){ids:List Nat}{id s off n:Nat}{rs:Sh}{u:V}{x:Value}(h:S.Bo ids rs id s off n=some u)(hl:bf (S.cx g w) (.fT id s off n) x):bf ⟨w.heap,sd S g w ids,0,[]⟩ u x:=by
 unfold St.Bo at h;cases hc:ids.contains id with
 |false=>rw[hc]at h;cases h
 |true =>
  rw[hc]at h;simp only[bM]at h;split at h
  ·rename_i cs eX
   cases hle:((s==rs.length)&&Nat.blt 0 rs.length&&Nat.ble (off*rs.length+n*rs.length) cs.length) with
   |false=>rw[hle]at h;cases h
   |true =>
    rw[hle]at h;simp only[bM]at h;split at h
    ·rename_i es mU
     cases h;simp only[b8,eg]at hle;obtain⟨⟨rfl,gX⟩,hle⟩:=hle;have gX:0<rs.length:=by simpa [CU] using gX
     have hle:=jk hle;obtain⟨cap,eK,hx⟩:∃cap,n≤cap∧x=.slice (some ⟨g.κ id,off*rs.length,none⟩) n cap:=by
      cases hl with
      |plain h _=>cases h
      |fT _ _ _ _ cap h=>exact⟨cap,h,rfl⟩
     subst hx;rcases nG n with h0|h0
     ·subst h0
      simp only[chunks,lb,Option.some.injEq]at mU;subst mU;exact .plain (.empty _ _ _ _) (fun _ _ _ e=>by cases e)
     have hpn:=PB h0 gX;have cq:cs≠[]:=by intro e;subst e;simp at hle;omega
     obtain⟨cB,gN,hm,c,e,hh,_,hj⟩:=(hR.aZ id cs eX).resolve_left (fun h=>cq h.1);obtain⟨h1,h2⟩:=PM (X:=S.cx g w) (c:=c) (off:=off*rs.length) (fun j v hv=>(hj j v hv).2) (by omega) mU
     have zO:=ZJ (ids:=ids) (S:=S) (g:=g) hh hc (ZI eX cq);have xk:cs.length≤c.size:=by
      rcases cM c.size cs.length with h|h
      ·obtain⟨_,y,hy,_⟩:=hj c.size cs[c.size] (g8 h)
       simp at hy
      ·exact h
     have bI:g.κ id<w.heap.size:=by
      rcases cM (g.κ id) w.heap.size with h|h
      ·exact h
      ·simp[nb h]at hh
     rw[←h1];refine .plain (C9 (m:=(sd S g w ids).m) (h2.mono (IN hR ids 0)) bI (by omega) (fun j y hj=>?_) ?_ _) (fun _ _ _ e=>by cases e)
     ·rw[lP hh]
      rw[lN]at hj;split at hj
      ·rw[oF]at hj;simpa using hj
      ·cases hj
     ·show _≤(sd S g w ids).m (g.κ id)
      rw[zO,h1];omega
    ·cases h
  ·cases h
theorem RT(hR:R E g S a w)(ids:List Nat):∀{args:List (Sh×Sh×bA)} {ops:List Operand} {vs:List V},(args.length=ops.length∧∀(i:Nat) rs sh x y,args[i]?=some (rs,sh,x)→ops[i]?=some y→bZ y x=true)→mq S ids args=some vs →
  vs.length=ops.length∧∀(i:Nat) (v:V) (x:Value),vs[i]?=some v→(ops.map a.eval)[i]?=some x→bf ⟨w.heap,sd S g w ids,0,[]⟩ v x
 |[],[],vs,_,h=>by simp[mq]at h;subst h;simp
 |[],_::_,_,h,_=>by simp at h
 |_::_,[],_,h,_=>by simp at h
 |(rs,sh,x)::args,y::ops,vs,bz,h=>by
  simp only[mq]at h;split at h
  ·rename_i u us h1 h2
   cases h;have rY:∀v,S.ev x=some v→bf (S.cx g w) v (a.eval y):=fun v hv=>c9 hR (bz.2 0 rs sh x y (by simp) (by simp)) hv
   have hr:bf ⟨w.heap,sd S g w ids,0,[]⟩ u (a.eval y):=by
    split at h1
    ·rename_i id s n zQ
     unfold St.CZ at h1;cases hc:ids.contains id with
     |false=>rw[hc]at h1;cases h1
     |true =>
      rw[hc]at h1;simp only[bM]at h1;split at h1
      ·rename_i es kP
       cases h1;have hl:=rY _ zQ;obtain⟨nj,n',he,hlen,uN⟩:=HL hR hl kP;cases he;have hz:n=0→bf ⟨w.heap,sd S g w ids,0,[]⟩ (.slice none rs.length es) (a.eval y):=fun h0=>by
        subst h0;obtain rfl:=a8.1 hlen;refine .plain ?_ (fun _ _ _ e=>by cases e)
        rcases rT hl with⟨cap,_,_,e⟩ | ⟨_,e | ⟨q,e⟩,_⟩
        ·rw[e];exact .empty _ _ _ _
        ·rw[e];exact .nil _ _
        ·rw[e];exact .empty _ _ _ _
       rcases nG n with h0|h0
       ·exact hz h0
       obtain⟨cap,eK,hx,c,e,hh,fZ,zS,cB,gN,_⟩:=uN.resolve_left (fun h=>by omega)
       have B1:∃cs,look id S.aZ=some cs:=by
        unfold St.sM at kP;simp only at kP;split at kP
        ·rename_i cs h;exact⟨cs,h⟩
        ·cases kP
       obtain⟨cs,eX⟩:=B1;have cq:cs≠[]:=by
        intro e;subst e;unfold St.sM at kP;simp only[eX]at kP;have h2:0<rs.length:=by
         rcases nG rs.length with h|h
         ·have h2:Nat.blt 0 rs.length=false:=by rw[h];rfl
          rw[h2]at kP;simp at kP
         ·exact h
        have:=PB h0 h2;cases hle:Nat.ble (n*rs.length) ([]:List V).length with
        |false=>rw[hle]at kP;simp at kP
        |true =>
         have h3:=jk hle;simp at h3;omega
       have hm:=ZJ (ids:=ids) (S:=S) (g:=g) hh hc (ZI eX cq);have bI:g.κ id<w.heap.size:=by
        rcases cM (g.κ id) w.heap.size with h|h
        ·exact h
        ·simp[nb h]at hh
       rw[hx,← hlen];refine .plain (C9 (m:=(sd S g w ids).m) (zS.mono (IN hR ids 0)) bI (by omega) (fun j y hj=>?_) ?_ _) (fun _ _ _ e=>by cases e)
       ·show cellAt w.heap (g.κ id) _=_
        rw[lP hh];rw[lN]at hj;split at hj
        ·simpa using hj
        ·cases hj
       ·show _≤(sd S g w ids).m (g.κ id)
        rw[hm,hlen,kz];exact fZ
      ·cases h1
    ·rename_i id s off n zQ
     exact alZ hR h1 (rY _ zQ)
    ·rename_i v _ _ zQ
     exact(XE h1 (rY _ zQ) 0).mono (IN hR ids 0) (fun d=>.inl ⟨rfl,rfl,fun k hk=>by simp[look]at hk⟩)
    ·cases h1
   obtain⟨e,hx⟩:=RT hR ids (args:=args) (ops:=ops) ⟨by simpa using bz.1,fun i zX z7 x' y' hi hj=>bz.2 (i+1) zX z7 x' y' (by simpa using hi) (by simpa using hj)⟩ h2
   refine⟨by simp[e],fun i z zz hz tM=>?_⟩
   cases i with
   |zero=>simp at hz tM;subst hz;subst tM;exact hr
   |succ i=>exact hx i z zz (by simpa using hz) (by simpa using tM)
  ·cases h
theorem ZK{id:Nat}:∀{pos:Nat} {vs us:List V} {o:Option (List V)},nZ id pos vs=some (us,o)→∀v∈vs,v.kB=true
 |_,[],_,_,_,v,hv=>by cases hv
 |0,u::vs,us,o,h,v,hv=>by
  simp only[nZ]at h;split at h
  ·rename_i t n es
   cases hc:(es.all (fun r=>r.length==n&&r.all V.sc)&&vs.all V.kB) with
   |false=>rw[hc]at h;cases h
   |true =>
    simp only[b8]at hc;rcases jQ.1 hv with rfl|hv
    ·exact hc.1
    ·exact iL.1 hc.2 v hv
  ·cases h
 |p+1,u::vs,us,o,h,v,hv=>by
  simp only[nZ]at h;cases hs:u.kB with
  |false=>rw[hs]at h;cases h
  |true =>
   rw[hs]at h;simp only[bM]at h;split at h
   ·rename_i h'
    rcases jQ.1 hv with rfl|hv
    ·exact hs
    ·exact ZK h' v hv
   ·cases h
theorem al0{X X':Cx}{v:V}{y:Value}(h:v.kB=true)(hh:X'.h=X.h)(hm:X'.g.m=X.g.m)(hr:bf X (strip v) y):bf X' (strip v) y:=by
 have sc:v.sc=true→bf X' (strip v) y:=fun hs=>by
  rw[(IM hs).2.2];exact Mp hs hr X'
 cases v with
 |slice t n es =>
  have:bf X (.slice none n es) y:=hr;cases this with
  |plain h _=>exact .plain (by rw[hh,hm];exact h) (fun _ _ _ e=>by cases e)
 |int|bool|str=>exact sc h
 |_=>simp[V.kB,V.sc]at h
theorem al1{X:Cx}{base q:Nat}{v:V}{y:Value}(h:v.kB=true)(hr:bf X (strip v) y)(hf:E9 X base (fun _=>False) q v y)(X':Cx)(hh:X'.h=X.h)(hm:∀b,base≤b→X.g.m b≤X'.g.m b):bf X' (strip v) y:=by
 have xp:E9 ⟨X.h,{ X.g with ow:=fun b=>if base≤b then X.g.ow b else .none },X.N,X.T⟩ base (fun _=>False) q v y:=fun f n es e=>(hf f n es e).imp (fun z=>z) fun⟨b,off,cap,c,e,h1,h2,h3,h4⟩ =>
  ⟨b,off,cap,c,e,h1,h2,by show(if base≤b then X.g.ow b else Ow.none)=_;rw[aK (h2.resolve_right fun h=>h)];exact h3,h4⟩
 have lh:bf ⟨X.h,{ X.g with ow:=fun b=>if base≤b then X.g.ow b else .none },X.N,X.T⟩ (strip v) y:=al0 (X:=X) h rfl rfl hr
 exact RR h lh xp X' hh fun b hb=>hm b (by
  have hb:(if base≤b then X.g.ow b else Ow.none)=.tok q:=hb
  split at hb
  ·assumption
  ·cases hb)
theorem Qr{o:Oper}{f:Operand}{args:Array Operand}{ts:Array TypeId}{fo:bA}{as:List (Sh×Sh×bA)}{ids:List Nat}{id pos:Nat}{C:bD}(ho:o.op=.call ⟨.value f,args,ts⟩)(hf:bZ f fo=true)
  (has:as.length=args.toList.length∧∀(i:Nat) rs sh x y,as[i]?=some (rs,sh,x)→args.toList[i]?=some y→bZ y x=true)
  (hC:∀f args G r G',C f args G=some (r,G')→vN P E.T f args G r G') (hn:S.fb id)
  (hR:R E g S a w) (hd:∀d,o.dst=some d→d<E.nt) (ah:VO.run C o.dst S (.own fo as ids id pos)=some S'):ct P E o S S' a w:=by
 simp only[VO.run]at ah;split at ah
 ·rename_i og vs yC tG
  split at ah
  ·rename_i r G' lq
   have xa:=hC _ _ _ _ _ lq;obtain⟨fn,sZ,xb,qQ⟩:=xa.fn;have e1:a.eval f=.func (.func (jA og)) #[] #[]:=by
    have hr:=c9 hR hf yC;generalize a.eval f=y at hr;cases hr with
    |plain h _=>cases h
    |fn _ _ xs hl hx =>
     have:xs = #[]:=by
      apply ED;simpa using hl.symm
     rw[this]
   obtain⟨hl,hx⟩:=RT hR ids has tG;have fQ:(execOp a.eval o).run P w=.ok (.enter (jA og) (args.map a.eval)) w:=by
    simp[execOp,ho,resolve,e1,Deferred.ofValue,invoke,callFunc,sZ];simp at qQ;cases hb:fn.body with
    |none=>simp[hb]at xb
    |some c=>simp[qQ]
   intro K Q hK;unfold Oper.wp;rw[fQ,Oper.upon_enter];have Az:=xa.run w (sd S g w ids) (args.toList.map a.eval) (oN.mono (X:=⟨w.heap,g,0,[]⟩) (X':=⟨w.heap,sd S g w ids,0,[]⟩) (IN hR ids 0) hR.pk) ⟨fun i o h=>by simp at h,fun i o h=>by simp at h,fun b i h=>absurd (Qi g b i h).2 (by omega)⟩ (by simp;simpa using hl) hx
   have yD:(args.toList.map a.eval).toArray=args.map a.eval:=by
    apply nF;simp
   rw[yD]at Az;refine Az.mono fun e w' ⟨x,g',he,hext,hG,mc⟩=>?_;subst he;have kc:∀b,¬ lp (sd S g w ids) b:=fun b=>Fg g b;have hold:∀b,b<w.heap.size→w'.heap[b]?=w.heap[b]?:=fun b hb=>(hext.l7 b hb (fun i hi=>absurd hi (by simp)) (kc b)).1
   let m0:Nat→Nat:=fun b=>if b<w.heap.size then g.m b else g'.m b
   have BM:Ext w (noCell g) 0 w' { g' with m:=m0 } G'.length :=
    ⟨hext.os,hext.tape,hext.output,hext.size,hext.eW,hext.γ,hext.γnew,fun b hb _ _=>⟨hold b hb,aK hb⟩,fun b hb hw=>absurd hw (Fg g b),fun b p q hb h=>absurd (hext.iW b p q hb h) (kc b),hext.lv⟩
   have hv:∀v cs,kC id pos r=some (v,cs)→∃us ys,RS ⟨w'.heap,{ g' with m:=m0 },G'.length,[]⟩ w.heap.size pos id us ys cs∧∀X':Cx,(∀(k:Nat) (u:V) (y:Value),us[k]?=some u→ys[k]?=some y→bf X' u y)→bf X' v x:=fun v cs mB=>by
    obtain⟨ys,p1,p2,p3⟩:=mc;have FH:∀vs us,r.gD=vs→nZ id pos vs=some (us,cs)→RS ⟨w'.heap,{ g' with m:=m0 },G'.length,[]⟩ w.heap.size pos id us ys cs:=fun vs us tG ho=>by
     subst tG;have:=ZH (X:=⟨w'.heap,{ g' with m:=m0 },G'.length,[]⟩) (k0:=0) ho p2.symm (fun k v y hv hy=>by
      obtain⟨q1,_,q3⟩:=p3 k v y hv hy;rw[kz];have q4:E9 ⟨w'.heap,g',G'.length,[]⟩ w.heap.size (fun _=>False) k v y:=fun f n es e=>(q3 f n es e).imp (fun z=>z) fun⟨b,off,cap,c,e,h1,h2,h3⟩=>⟨b,off,cap,c,e,h1,.inl (h2.resolve_right (kc b)),h3⟩;have eH:∀b,w.heap.size≤b→m0 b=g'.m b:=fun b hb=>av (by omega)
      refine⟨al1 (ZK ho v (g9 hv)) q1 q4 _ rfl (fun b hb=>vq (eH b hb).symm),fun f n es e=>(q4 f n es e).imp (fun z=>z) fun⟨b,off,cap,c,e,h1,h2,h3,h4,h5⟩=>?_⟩;refine⟨b,off,cap,c,e,h1,h2,h3,?_,h5⟩;show m0 b=_;rw[eH b (h2.resolve_right (fun h=>h))];exact h4)
     rwa [kz]at this
    unfold kC at mB;split at mB
    ·rename_i EY
     split at mB
     ·rename_i us o' Mq
      simp only[Option.some.injEq,Prod.mk.injEq]at mB;obtain⟨rfl,rfl⟩:=mB;have hr:=FH _ us rfl Mq;refine⟨us,ys,hr,fun X' h=>?_⟩;have hp:x=.tuple ys.toArray:=p1;rw[hp];have hlen:us.length=ys.length:=by cases o'<;>exact hr.1
      exact .tuple _ _ (by simpa using hlen) fun i v y hv hy=>h i v y hv (by simpa using hy)
     ·cases mB
    ·rename_i ZL
     split at mB
     ·rename_i u o' Mq
      simp only[Option.some.injEq,Prod.mk.injEq]at mB;obtain⟨rfl,rfl⟩:=mB;have ZM:∀cs,r≠.agg cs:=fun cs e=>by
       subst e;cases pos<;>simp[nZ,V.sc]at Mq
      have hc:r.gD=[r]:=by
       cases r<;>first|rfl|(exact absurd rfl (ZL _))|(exact absurd rfl (ZM _))
      have hr:=FH _ [u] hc Mq;refine⟨[u],ys,hr,fun X' h=>?_⟩;have hp:ys=[x]:=by
       cases r<;>first|exact p1|(exact absurd rfl (ZL _))|(exact absurd rfl (ZM _))
      exact h 0 u x rfl (by rw[hp];rfl)
     ·cases mB
   split at ah
   ·rename_i v cs mB
    cases ah;obtain⟨us,ys,⟨_,b,FM,c,e,h1,h2,h3,h4,h5,h6⟩,s6⟩:=hv v (some cs) mB;obtain⟨gn,r1,r2,r3⟩:=hR.alone BM (fun i=>if i=b then 0 else m0 i) (fun i hi=>by
     rw[av (by omega)]
     exact aK hi)
    obtain⟨gk,k1,k2,k3,k4⟩:=r1.alY (cs:=cs) (cpn:=FM) hn (by rw[r2];exact aK rfl) (r3 b pos h1 h2) (kL hR.same.size h1) h3 (fun j u hu=>by
     obtain⟨q1,y,q2,q3⟩:=h5 j u hu;exact⟨(IM q1).1,(IM q1).2.1 _,y,q2,q3 _⟩) h4
    exact hK gk _ _ (k1.put hd (s6 _ (h6 _ rfl (fun b' oR=>by show m0 b'≤gk.m b';rw[k4,r2];simp only[av oR];exact bY _) k2 k3)))
   ·rename_i v mB
    cases ah;obtain⟨us,ys,⟨_,h1⟩,s6⟩:=hv v none mB;obtain⟨gn,r1,r2,_⟩:=hR.alone BM m0 (fun i hi=>aK hi);exact hK gn _ _ (r1.put hd (s6 _ (h1 _ rfl (fun b=>by show m0 b≤gn.m b;rw[r2];exact bY _))))
   ·cases ah
  ·cases ah
 ·cases ah
theorem RU:∀{as:List (Sh×bA)},mq S [] (as.map fun p=>([],p.1,p.2))=nL S as
 |[]=>rfl
 |(sh,x)::as=>by
  have p1:∀i s n,qg sh (.bR i s n)=none:=fun i s n=>by simp only[qg];split<;>rfl
  have p2:∀i s o n,qg sh (.fT i s o n)=none:=fun i s o n=>by simp only[qg];split<;>rfl
  simp only[oH,mq,nL,RU (as:=as)];rcases S.ev x with _|v
  ·rfl
  ·cases v<;>first|rfl|(simp only[p1,p2,St.CZ,St.Bo];rfl)
theorem ajS{o:Oper}{f:Operand}{args:Array Operand}{ts:Array TypeId}{fo:bA}{as:List (Sh×bA)}{id:Nat}{C:bD}(ho:o.op=.call ⟨.value f,args,ts⟩)(hf:bZ f fo=true)
  (has:as.length=args.toList.length∧∀(i:Nat) sh x y,as[i]?=some (sh,x)→args.toList[i]?=some y→bZ y x=true)
  (hC:∀f args G r G',C f args G=some (r,G')→vN P E.T f args G r G') (hn:S.fb id) (al2:o.dst.isSome=true)
  (hR:R E g S a w) (hd:∀d,o.dst=some d→d<E.nt) (ah:VO.run C o.dst S (.sL fo as id)=some S'):ct P E o S S' a w:=by
 obtain⟨dd,FO⟩:=PD.1 al2;simp only[VO.run]at ah;split at ah
 ·rename_i og vs yC tG
  split at ah
  ·rename_i r G' lq
   have vW:∀S0:St,(∀s v,s≠dd→look s S.env=some v→look s S0.env=some v)→(∀i cs,look i S.aZ=some cs→look i S0.aZ=some cs)→S0.bl=S.bl→S0.aD=S.aD →
     oW ({ S with env:=S.env.filter fun p => !(p.1==dd) }:St) S0:=fun S0 h1 h2 h3 h4=>by
    refine⟨fun s v e=>?_,h2,fun f k e=>by rw[h3];exact e,h4.symm⟩
    simp only[nN]at e;split at e
    ·cases e
    ·rename_i cq;exact h1 s v cq e
   have hnf:({ S with env:=S.env.filter fun p => !(p.1==dd) }:St).fb id:=QR.fb hn;have fin:∀{g1:Gh} {a1:Act} {w1:World} {G1:List aP} {x:Value} {u:V},R E g1 { S with env:=S.env.filter fun p => !(p.1==dd),aD:=G1 } a1 w1→a1.tmps[dd]?=some x→bf (({ S with aD:=G1 }:St).cx g1 w1) u x →
     R E g1 (({ S with aD:=G1 }:St).put (some dd) u) a1 w1:=fun {g1 a1 w1 G1 x u} r hx hr=>by
    refine⟨fun s v hs=>?_,r.aZ,r.bl,r.aD,r.defers,r.kb,r.same⟩;rw[ET,dL]at hs;split at hs
    ·rename_i e;subst e;cases hs;exact⟨x,hx,hr⟩
    ·rename_i cq
     refine r.env s v ?_;show look s (S.env.filter fun p => !(p.1==dd))=some v;rw[nN,av (fun e=>cq e.symm)];exact hs
   split at ah
   ·rename_i nj n len cs mB
    cases hc:(nj==id&&Nat.blt 0 cs.length&&Nat.blt 0 len&&cs.all V.sc) with
    |false=>simp[hc]at ah
    |true =>
    simp only[hc,bM]at ah;simp only[b8,eg,iL]at hc;obtain⟨⟨⟨oe,gX⟩,hlen⟩,DI⟩:=hc;have gX:0<cs.length:=by simpa [CU] using gX
    have hlen:0<len:=by simpa [CU] using hlen
    cases ah;subst oe;have RV:=Qr (id:=nj) (pos:=0) (S':={ S with aZ:=(nj,cs)::S.aZ }.put o.dst (.bR nj n len)) (as:=as.map fun p=>([],p.1,p.2)) (ids:=[]) ho hf ⟨by simpa using has.1,fun i rs sh x y h1 h2=>by simp at h1;obtain⟨a,b,h1,_,rfl,rfl⟩:=h1;exact has.2 i a b y h1 h2⟩ hC hn hR hd (by simp only[VO.run,yC,RU,tG,lq,mB])
    intro K Q hK;refine RV K Q fun g1 a1 w1 fy=>?_;rw[FO,ET]at fy;obtain⟨x,hx,hr⟩:=fy.env dd (.bR nj n len) (by show look dd ((dd,V.bR nj n len)::S.env)=_;rw[dL,aK rfl])
    have fM:=fy.aZ nj cs (by show look nj ((nj,cs)::S.aZ)=_;rw[dL,aK rfl])
    have Fw:R E g1 { S with env:=S.env.filter fun p => !(p.1==dd) } a1 w1:=fy.less (vW _ (fun s v cq h=>by show look s ((dd,V.bR nj n len)::S.env)=_;rw[dL,av (fun e=>cq e.symm)];exact h)
     (fun i ei h=>by show look i ((nj,cs)::S.aZ)=_;rw[dL,av (fun e=>by subst e;rw[hn.obj]at h;cases h)];exact h) rfl rfl)
    rcases fM with⟨rfl,w5⟩ | ⟨cB,gN,hm,c,e,hh,fY,hj⟩
    ·simp at gX
    ·obtain⟨cap,eK,xk,hxe⟩:∃cap,len≤cap∧cap*n=g1.cp nj∧x=.slice (some ⟨g1.κ nj,0,none⟩) len cap:=by
      rcases rT hr with h | ⟨h1,h2,h3⟩
      ·exact h
      ·omega
     obtain⟨g2,r1,r2,_⟩:=Fw.QS (n:=n) hnf cB gN hm hh hxe eK (us:=cs) (fun j v hv=>by
      obtain⟨_,y,hy,rY⟩:=hj j v hv;have hs:=DI v (g9 hv);refine⟨by cases v<;>simp_all[V.sc,V.plain],y,hy,?_⟩
      cases v<;>simp[V.sc]at hs<;>(cases rY with|plain h _=>exact h))
     exact hK g2 _ _ (by rw[FO];exact fin r1 hx r2)
   ·rename_i n mB
    cases ah;have RV:=Qr (id:=id) (pos:=0) (S':=S.put o.dst (.ea n)) (as:=as.map fun p=>([],p.1,p.2)) (ids:=[]) ho hf ⟨by simpa using has.1,fun i rs sh x y h1 h2=>by simp at h1;obtain⟨a,b,h1,_,rfl,rfl⟩:=h1;exact has.2 i a b y h1 h2⟩ hC hn hR hd (by simp only[VO.run,yC,RU,tG,lq,mB])
    intro K Q hK;refine RV K Q fun g1 a1 w1 fy=>?_;rw[FO,ET]at fy;obtain⟨g2,r1⟩:=LU (n:=n) fy (s:=dd) (v:=.ea n) (by show look dd ((dd,V.ea n)::S.env)=_;rw[dL,aK rfl]) (fun x hx=>uH hx)
    refine hK g2 _ _ ?_;rw[FO];refine⟨fun s v hs=>?_,r1.aZ,r1.bl,r1.aD,r1.defers,r1.kb,r1.same⟩;rw[ET,dL]at hs;refine r1.env s v ?_;show look s ((dd,V.c6 S.aD.length n 0)::(dd,V.ea n)::S.env)=some v;rw[dL];split at hs
    ·rename_i e;rw[aK e];exact hs
    ·rename_i e;rw[av e,dL,av e];exact hs
   ·cases ah
  ·cases ah
 ·cases ah
theorem ajT{o:Oper}{f:Operand}{args:Array Operand}{ts:Array TypeId}{fo:bA}{as:List (Sh×Sh×bA)}{ids:List Nat}{C:bD}(ho:o.op=.call ⟨.value f,args,ts⟩)(hf:bZ f fo=true)
  (has:as.length=args.toList.length∧∀(i:Nat) rs sh x y,as[i]?=some (rs,sh,x)→args.toList[i]?=some y→bZ y x=true)
  (hC:∀f args G r G',C f args G=some (r,G')→vN P E.T f args G r G')
  (hR:R E g S a w) (hd:∀d,o.dst=some d→d<E.nt) (ah:VO.run C o.dst S (.sK fo as ids)=some S'):ct P E o S S' a w:=by
 simp only[VO.run]at ah;split at ah
 ·rename_i og vs yC tG
  split at ah
  ·rename_i r G' lq
   cases DJ:r.qE with
   |false=>rw[DJ]at ah;cases ah
   |true =>
   rw[DJ]at ah;simp only[bM,Option.some.injEq]at ah;subst ah;have xa:=hC _ _ _ _ _ lq;obtain⟨fn,sZ,xb,qQ⟩:=xa.fn;have e1:a.eval f=.func (.func (jA og)) #[] #[]:=by
    have hr:=c9 hR hf yC;generalize a.eval f=y at hr;cases hr with
    |plain h _=>cases h
    |fn _ _ xs hl hx =>
     have:xs = #[]:=by
      apply ED;simpa using hl.symm
     rw[this]
   obtain⟨hl,hx⟩:=RT hR ids has tG;have fQ:(execOp a.eval o).run P w=.ok (.enter (jA og) (args.map a.eval)) w:=by
    simp[execOp,ho,resolve,e1,Deferred.ofValue,invoke,callFunc,sZ];simp at qQ;cases hb:fn.body with
    |none=>simp[hb]at xb
    |some c=>simp[qQ]
   intro K Q hK;unfold Oper.wp;rw[fQ,Oper.upon_enter];have Az:=xa.run w (sd S g w ids) (args.toList.map a.eval) (oN.mono (X:=⟨w.heap,g,0,[]⟩) (X':=⟨w.heap,sd S g w ids,0,[]⟩) (IN hR ids 0) hR.pk) ⟨fun i o h=>by simp at h,fun i o h=>by simp at h,fun b i h=>absurd (Qi g b i h).2 (by omega)⟩ (by simp;simpa using hl) hx
   have yD:(args.toList.map a.eval).toArray=args.map a.eval:=by
    apply nF;simp
   rw[yD]at Az;refine Az.mono fun e w' ⟨x,g',he,hext,hG,mc⟩=>?_;subst he;have kc:∀b,¬ lp (sd S g w ids) b:=fun b=>Fg g b;have hold:∀b,b<w.heap.size→w'.heap[b]?=w.heap[b]?:=fun b hb=>(hext.l7 b hb (fun i hi=>absurd hi (by simp)) (kc b)).1
   let m':Nat→Nat:=fun b=>if b<w.heap.size then g.m b else g'.m b
   have BM:Ext w (noCell g) 0 w' { g' with m:=m' } G'.length :=
    ⟨hext.os,hext.tape,hext.output,hext.size,hext.eW,hext.γ,hext.γnew,fun b hb _ _=>⟨hold b hb,aK hb⟩,fun b hb hw=>absurd hw (Fg g b),fun b p q hb h=>absurd (hext.iW b p q hb h) (kc b),hext.lv⟩
   obtain⟨gn,r1,_,_⟩:=hR.alone BM m' (fun b hb=>aK hb);refine hK gn _ _ (r1.put hd ?_);obtain⟨ys,p1,p2,p3⟩:=mc;have sc:∀(k:Nat) (v:V) (y:Value),r.gD[k]?=some v→v.sc=true→ys[k]?=some y→bf (S.cx gn w') v y:=fun k v y hv hs hy=>Mp hs (p3 k v y hv hy).1 _;cases r with
   |tuple vs =>
    simp only[V.qE,iL]at DJ;have hp:x=.tuple ys.toArray:=p1;rw[hp];exact .tuple _ _ (by have:=p2;simp[V.gD]at this;simpa using this.symm) fun i v y hv hy=>sc i v y hv (DJ v (g9 hv)) (by simpa using hy)
   |agg vs =>
    simp only[V.qE,iL]at DJ;have hp:x=.agg ys.toArray:=p1;rw[hp];exact .agg _ _ (by have:=p2;simp[V.gD]at this;simpa using this.symm) fun i v y hv hy=>sc i v y hv (DJ v (g9 hv)) (by simpa using hy)
   |_ =>
    have hp:ys=[x]:=p1;exact sc 0 _ x rfl DJ (by rw[hp];rfl)
  ·cases ah
 ·cases ah
end
end Go.Vm
