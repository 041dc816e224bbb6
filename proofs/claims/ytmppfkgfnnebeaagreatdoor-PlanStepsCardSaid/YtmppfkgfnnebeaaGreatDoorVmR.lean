/- The value machine: results that become the caller's own. -/
import Derived.Test.YtmppfkgfnnebeaaGreatDoorVmQ
import Derived.Test.YtmppfkgfnnebeaaGreatDoorVmV
namespace Go.Vm
set_option linter.all false
section
variable {P:Program} {E:Entry} {g g':Gh} {S S':St} {a:Act} {w w':World}
theorem LW{X:Cx}{v:V}{y:Value}(h:v.sc=true)(hr:bb X (strip v) y)(X':Cx):bb X' v y:=by
 cases v<;>simp[V.sc]at h
 ·rw[mI hr];exact .plain (.int _ _) (um rfl)
 ·rw[A9 hr];exact .plain (.bool _) (um rfl)
 ·obtain⟨z,rfl,e⟩:=bb.BG hr
  subst e;exact .plain (.str _) (um rfl)
theorem It{v:V}(h:v.sc=true):v.cL=true∧(∀d,v.cq d=false)∧strip v=v:=by
 cases v<;>simp[V.sc]at h<;>exact⟨rfl,fun _=>rfl,rfl⟩
theorem QW{X:Cx}{base q:Nat}{v:V}{y:Value}(h:v.ky=true)(hr:bb X (strip v) y)(hf:EI X base (fun _=>False) q v y)(X':Cx)(hh:X'.h=X.h)(hm:∀b,X.g.ow b=.tok q→X.g.m b≤X'.g.m b):bb X' (strip v) y:=by
 have sc:v.sc=true→bb X' (strip v) y:=fun hs=>by
  rw[(It hs).2.2];exact LW hs hr X'
 cases v with
 |slice t n es =>
  cases t with
  |none=>simp[V.ky,V.sc]at h
  |some t =>
   simp only[V.ky,g8,bS,dO]at h;have hv:fg X.h X.g.m (.slice none n es) y:=by
    have:bb X (.slice none n es) y:=hr;cases this with|plain h _=>exact h
   have go:fg X'.h X'.g.m (.slice none n es) y:=by
    cases hv with
    |nil=>exact .nil _ _
    |empty _ _ a cap=>exact .empty _ _ a cap
    |slice _ _ _ b off cap ys hb eo iH hc HF hp zB =>
     by_cases he:es=[]
     ·subst he
      exact .empty _ _ _ cap
     rcases hf t n es rfl with⟨e,_⟩ | ⟨b',off',sy,c,e,h1,_,h3,_,_,_,_,_⟩
     ·exact absurd e he
     ·injection h1 with h1 _ _
      injection h1 with h1;injection h1 with h4 h5 _;subst h4;refine .slice none n es b off cap ys (by rw[hh];exact hb) eo iH (fun i row j v hi hj=>by rw[hh];exact hc i row j v hi hj) (fun i row j v hi hj=>?_) hp (iQ zB (hm b h3))
      have hs:=(h row (fW hi)).2 v (fW hj);have h6:=HF i row j v hi hj;generalize ys i j=z at h6 ⊢;cases v<;>simp[V.sc]at hs
      ·cases h6;exact .int _ _
      ·cases h6;exact .bool _
      ·cases h6;exact .str _
   exact .plain go (fun _ _ _ e=>by cases e)
 |_=>exact sc (by simpa [V.ky] using h)
def QX(X:Cx)(base p id:Nat)(us:List V)(ys:List Value):Option (List V)→Prop
 |none=>us.length=ys.length∧∀(X':Cx),X'.h=X.h→(∀b,X.g.m b≤X'.g.m b)→∀(k:Nat) (u:V) (y:Value),us[k]?=some u→ys[k]?=some y→bb X' u y
 |some cs=>us.length=ys.length∧∃b Fi c e,base≤b∧X.g.ow b=.tok p∧X.h[b]?=some (.cells c e (0,0))∧Fi≤c.size ∧
   (∀(j:Nat) (u:V),cs[j]?=some u→u.sc=true∧∃y,c[j]?=some y∧∀X':Cx,bb X' u y) ∧
   ∀X':Cx,X'.h=X.h→(∀b',b'≠b→X.g.m b'≤X'.g.m b')→X'.g.κ id=b→X'.g.cp id=Fi→∀(k:Nat) (u:V) (y:Value),us[k]?=some u→ys[k]?=some y→bb X' u y
theorem YS{X:Cx}{base id:Nat}:∀{pos k0:Nat} {vs us:List V} {ys:List Value} {o:Option (List V)},nK id pos vs=some (us,o)→vs.length=ys.length →
  (∀(k:Nat) (v:V) (y:Value),vs[k]?=some v→ys[k]?=some y→bb X (strip v) y∧EI X base (fun _=>False) (k0+k) v y)→QX X base (k0+pos) id us ys o
 |_,_,[],_,_,_,h,_,_=>by cases ‹Nat› <;> simp[nK]at h
 |0,_,_::_,_,[],_,_,hl,_=>by simp at hl
 |0,k0,v::vs,us,y::ys,o,h,hl,hr=>by
  simp only[nK]at h;split at h
  ·rename_i t n es
   cases hc:(es.all (fun r=>r.length==n&&r.all V.sc)&&vs.all V.ky) with
   |false=>simp[hc]at h
   |true =>
    simp only[hc,bG]at h;simp only[bS,g8,dO]at hc;obtain⟨h0,hf⟩:=hr 0 _ y rfl rfl;have vH:∀(X':Cx),X'.h=X.h→(∀b,X.g.ow b≠.tok k0→X.g.m b≤X'.g.m b)→∀(k:Nat) (u:V) (z:Value),(vs.map strip)[k]?=some u→ys[k]?=some z→bb X' u z:=fun X' hh hm k u z hu hz=>by
     rw[vN]at hu;cases hk:vs[k]? with
     |none=>simp[hk]at hu
     |some u0 =>
      simp[hk]at hu;subst hu;obtain⟨q1,q2⟩:=hr (k+1) u0 z (by simpa using hk) (by simpa using hz)
      exact QW (hc.2 u0 (fW hk)) q1 q2 X' hh (fun b hb=>hm b (fun e=>by rw[hb]at e;injection e with e;omega))
    cases he:es.isEmpty with
    |true =>
     simp only[he,bG,Option.some.injEq,Prod.mk.injEq]at h;obtain⟨rfl,rfl⟩:=h;have he:es=[]:=by simpa using he
     subst he;refine⟨by simpa using hl,fun X' hh hm k u z hu hz=>?_⟩
     cases k with
     |zero =>
      simp at hu hz;subst hu;subst hz;rcases hf t n [] rfl with⟨_,e⟩ | ⟨b,off,cap,c,e,_,_,_,_,_,_,_,h9⟩
      ·exact .dY e
      ·simp at h9
     |succ k=>exact vH X' hh (fun b _=>hm b) k u z (by simpa using hu) (by simpa using hz)
    |false =>
     simp only[he,eD,Option.some.injEq,Prod.mk.injEq]at h;obtain⟨rfl,rfl⟩:=h;have cf:es≠[]:=by intro e;subst e;simp at he
     rcases hf t n es rfl with⟨e,_⟩ | ⟨b,off,cap,c,e,h1,h2,h3,_,h5,h6,h7,_⟩
     ·exact absurd e cf
     ·subst h7
      have hv:fg X.h X.g.m (.slice none n es) y:=by
       have:bb X (.slice none n es) y:=h0;cases this with|plain h _=>exact h
      rcases KM hv with⟨e,_⟩ | ⟨e,_⟩ | ⟨b',off',sy,l,q1,q2,q3,q4⟩
      ·exact absurd e cf
      ·exact absurd e cf
      ·rw[q1]at h1
       injection h1 with r1 r2 r3;injection r1 with r1;injection r1 with r4 r5 r6;subst r4;subst r5;subst r3;obtain⟨f1,f2⟩:=zQ q4;refine⟨by simpa using hl,b',sy*n,c,e,h2.resolve_right (fun h=>h),h3,h5,by omega,fun j u hu=>?_,fun X' hh hm k1 k2 k u z hu hz=>?_⟩
       ·obtain⟨_,z,Ab,CH⟩:=f2 j u hu
        have C8:u.sc=true:=by
         obtain⟨r,qW,oZ⟩:=OF.1 (fW hu);exact(hc.1 r qW).2 u oZ
        have jw:=q3 j z Ab;rw[kR h5,jV]at jw;refine⟨C8,z,jw,fun X'=>LW (X:=X) C8 ?_ X'⟩;rw[(It C8).2.2];exact .plain CH (um (by cases u<;>simp_all[V.sc,V.plain]))
       ·cases k with
        |zero =>
         simp at hu hz;subst hu;subst hz;rw[q1,← k1];exact .bR id n es.length sy q2 k2.symm
        |succ k=>exact vH X' hh (fun b2 rj=>hm b2 (fun e=>rj (by rw[e];exact h3))) k u z (by simpa using hu) (by simpa using hz)
  ·cases h
 |pos+1,k0,v::vs,us,[],o,h,hl,_=>by simp at hl
 |pos+1,k0,v::vs,us,y::ys,o,h,hl,hr=>by
  simp only[nK]at h;cases hs:v.ky with
  |false=>simp[hs]at h
  |true =>
   simp only[hs,bG]at h;split at h
   ·rename_i nP o' h'
    simp only[Option.some.injEq,Prod.mk.injEq]at h;obtain⟨rfl,rfl⟩:=h;have ih:=YS (k0:=k0+1) h' (by simpa using hl) (fun k v z hv hz=>by
     have:=hr (k+1) v z (by simpa using hv) (by simpa using hz)
     rw[show k0+(k+1)=k0+1+k from by omega]at this
     exact this)
    obtain⟨wW,h01⟩:=hr 0 v y rfl rfl;have h0:∀X':Cx,X'.h=X.h→(∀b,X.g.ow b=.tok (k0+0)→X.g.m b≤X'.g.m b)→bb X' (strip v) y:=fun X' hh hm=>QW hs wW h01 X' hh hm;rw[show k0+1+pos=k0+(pos+1) from by omega]at ih
    cases o' with
    |none =>
     obtain⟨i1,i2⟩:=ih;refine⟨by simp[i1],fun X' hh hm k u z hu hz=>?_⟩
     cases k with
     |zero=>simp at hu hz;subst hu;subst hz;exact h0 X' hh (fun b _=>hm b)
     |succ k=>exact i2 X' hh hm k u z (by simpa using hu) (by simpa using hz)
    |some cs =>
     obtain⟨i1,b,Fi,c,e,i2,i3,i4,i5,i6,i7⟩:=ih;refine⟨by simp[i1],b,Fi,c,e,i2,i3,i4,i5,i6,fun X' hh hm k1 k2 k u z hu hz=>?_⟩
     cases k with
     |zero=>simp at hu hz;subst hu;subst hz;exact h0 X' hh (fun b2 rj=>hm b2 (fun e=>by rw[e,i3]at rj;injection rj with e2;omega))
     |succ k=>exact i7 X' hh hm k1 k2 k u z (by simpa using hu) (by simpa using hz)
   ·cases h
theorem R.alb(hR:R E g S a w){id b:Nat}(hn:S.eN id)(hm:g.m b=0)(cr:g.ow b=.none)(fZ:E.w0.heap.size≤b){c:Array Value}{e:TypeId}(hh:w.heap[b]?=some (.cells c e (0,0)))
  {cs:List V} (ew:∀(j:Nat) (v:V),cs[j]?=some v→v.cL=true∧v.cq id=false∧∃y,c[j]?=some y∧bb (S.cx g w) v y) {cpn:Nat} (hcpn:cpn≤c.size) :
  ∃g',R E g' { S with aW:=(id,cs)::S.aW } a w∧g'.κ id=b∧g'.cp id=cpn∧g'.m=g.m:=by
 let g':Gh:={ g with κ:=c6 g.κ id b,cp:=c6 g.cp id cpn,ow:=c6 g.ow b (.obj id) }
 have t:Touch E g S w g' S.bj S.aA.length w b (some id) none :=
  {os:=rfl,tape:=rfl,output:=rfl,size:=bV _,heap:=fun _ _ _=>rfl,m:=fun _ _=>rfl,ow:=fun _ hb=>fY _ _ hb,
   κ:=fun i hi=>fY _ _ (fun e=>hi (by rw[e])),cp:=fun i hi=>fY _ _ (fun e=>hi (by rw[e])),τ:=fun _ _=>rfl,T:=fun _ _=>rfl,γ:=fun _ _=>rfl,eK:=bV _,
   γnew:=fun i a b=>absurd a (by omega),fresh:=.inl fZ,iq:=fun p q _ e=>by(have e:c6 g.ow b (.obj id) b=.cell p q:=e);rw[dL]at e;exact nomatch e
   lv:=fun i e=>by(have e:c6 g.ow b (.obj id) b=.aA i:=e);rw[dL]at e;exact nomatch e
   kb:=fun _ _ _ h=>h,qn:=fun _=>bV _ }
 have lP:∀i,jg (S.cx g w) ⟨w.heap,g',S.aA.length,S.bj⟩ i∨i=id:=fun i=>by
  by_cases hi:i=id
  ·exact .inr hi
  ·exact .inl (t.keeps hR (fun e=>hi (by cases e;rfl)) (fun e=>by cases e) (fun _ e=>by rw[cr]at e;cases e))
 refine⟨g',R.oA t hR rfl rfl (fun i=>(lP i).imp (fun z=>z) fun e=>by rw[e];exact hn) (fun s v hs=>.inl hs) (fun i dS ho=>?_) (fun f k b hf hb=>.inl ⟨(fun e=>by cases e),fun _ e=>by rw[cr]at e;cases e⟩)
  (fun i o ho=>.inl ⟨ho,fun _=>⟨fun e=>(by rw[cr]at e;cases e),fun _ e=>(by rw[cr]at e;cases e)⟩⟩),dL _ _ _,dL _ _ _,rfl⟩
 rw[dz]at ho;by_cases hi:id=i
 ·subst hi
  rw[aM rfl]at ho;cases ho;refine .inr ⟨?_,?_,?_,c,e,?_,(by show c6 g.cp _ _ _≤_;rw[dL];exact hcpn),fun j v hj=>?_⟩
  ·show c6 g.ow _ _ (c6 g.κ _ _ _)=_;rw[dL,dL]
  ·show _≤c6 g.κ _ _ _;rw[dL];exact fZ
  ·show g.m (c6 g.κ _ _ _)=_;rw[dL];exact hm
  ·show w.heap[c6 g.κ _ _ _]?=_;rw[dL];exact hh
  ·obtain⟨q1,q2,y,q3,q4⟩:=ew j v hj
   exact⟨q1,y,q3,q4.mono t.le fun i=>(lP i).imp (fun z=>z) fun e=>by rw[e];exact q2⟩
 ·rw[ay hi]at ho
  exact .inl ⟨ho,fun e=>hi (by cases e;rfl),fun _ e=>by rw[cr]at e;cases e⟩
theorem R.alone(hR:R E g S a w){N:Nat}(hx:Ext w (noCell g) 0 w' g' N)(m':Nat→Nat)(vW:∀b,b<w.heap.size→m' b=g.m b) :
  ∃gn,R E gn S a w'∧gn.m=m'∧∀b p,w.heap.size≤b→g'.ow b=.tok p→gn.ow b=.none:=by
 let g2:Gh:={ g' with m:=m',γ:=g.γ,ow:=fun b=>if b<w.heap.size then g.ow b else match g'.ow b with | .aA _=>.none|q=>q }
 have hold:∀b,b<w.heap.size→w'.heap[b]?=w.heap[b]?∧m' b=g.m b:=fun b hb=>⟨(hx.kA b hb (fun i hi=>absurd hi (by simp)) (EN g b)).1,vW b hb⟩
 have Bv:Ext w g S.aA.length w' g2 S.aA.length:=⟨hx.os,hx.tape,hx.output,hx.size,bV _,fun _ _=>rfl,fun i a b=>absurd a (by omega),fun b hb _ _=>hold b hb,
  fun b hb _=>⟨fun o y _ hy=>by rw[tn (hold b hb).1];exact hy,u6 (hold b hb).2.symm⟩,fun b p q hb h=>⟨p,q,by(have h:(if b<w.heap.size then _ else _)=Ow.cell p q:=h);rw[aM hb]at h;exact h⟩,
  fun b i h hb=>by(have h:(if b<w.heap.size then _ else _)=Ow.aA i:=h);rw[aM hb]at h;exact⟨h,(hR.aA.z b i h).2⟩⟩
 have Pr:∀i o,S.aA[i]?=some o→CD w'.heap g2 (g2.γ i) o:=fun i o hi=>by
  have h3:=hR.aA.own i o hi;cases o with
  |map es=>trivial
  |cells cs =>
   intro j n es y hj hy;have hy:cellAt w'.heap (g.γ i) j=some y:=hy;rw[tn (hold _ (EF hR hi (WJ hj))).1]at hy;rcases h3 j n es y hj hy with h | ⟨q,cap,c',e',q1,q2,q3,q4,q5,q6⟩
   ·exact .inl h
   ·have pP:q<w.heap.size:=by
     rcases cF q w.heap.size with h|h
     ·exact h
     ·simp[mF h]at q4
    exact .inr ⟨q,cap,c',e',q1,by show(if q<w.heap.size then _ else _)=_;rw[aM pP];exact q2,(hold q pP).2.trans q3,(hold q pP).1.trans q4,q5,q6⟩
 have Pu:∀b i,g2.ow b=.aA i→g2.m b=0∧i<S.aA.length:=fun b i h=>by
  have h:(if b<w.heap.size then g.ow b else match g'.ow b with | .aA _=>.none|q=>q)=Ow.aA i:=h
  split at h
  ·rename_i hb
   obtain⟨z1,z2⟩:=hR.aA.z b i h;exact⟨(hold b hb).2.trans z1,z2⟩
  ·split at h
   ·cases h
   ·rename_i q hq;exact absurd h (hq i)
 have HN:tp w'.heap g2 S.aA:=⟨fun i o hi=>by
  by_cases h0:o=.cells []
  ·exact .inl h0
  refine .inr ?_;obtain⟨h1,h2⟩:=(hR.aA.obj i o hi).resolve_left h0;have bE:=EF hR hi h0;obtain⟨q1,q2⟩:=hold _ bE;have le:Le ⟨w.heap,g,S.aA.length,[]⟩ ⟨w'.heap,g2,S.aA.length,[]⟩ :=
   ⟨hx.size,fun b o y ho hy=>by
    have hb:=A8 hy;show cellAt w'.heap b o=some y;rw[tn (hold b hb).1];exact hy,fun b hb=>u6 (hold b hb).2.symm,bV _,fun _ _=>rfl⟩
  refine⟨by show(if g.γ i<w.heap.size then _ else _)=_;rw[aM bE];exact h1,?_⟩
  cases o with
  |map es =>
   obtain⟨h3,c,e,h4,h5,h6⟩:=h2;refine⟨q2.trans h3,c,e,q1.trans h4,h5,fun j v y hj hy=>?_⟩;obtain⟨h7,h8,h9,gx⟩:=h6 j v y hj hy;exact⟨h7,h8,h9.mono le fun d=>.inr (h7 d),gx.mono le fun d=>.inr (wT (h8 d))⟩
  |cells cs =>
   obtain⟨h3,c,e,h4,h5,h6⟩:=h2;refine⟨q2.trans h3,c,e,q1.trans h4,h5,fun j v y hj hy=>?_⟩;obtain⟨h7,h8,h9⟩:=h6 j v y hj hy;exact⟨h7,h8,h9.mono le fun d=>.inr (h8 d)⟩,Pr,Pu⟩
 have lx:yC ⟨w'.heap,g2,S.aA.length,[]⟩ w.heap.size (kC g) (.bool true) (.bool true):=by
  refine⟨[.bool true],rfl,rfl,fun p v y hv hy=>?_⟩
  match p with
  |0 =>
   simp[V.gf]at hv hy;subst hv;subst hy;exact⟨.plain (.bool _) (um rfl),fun _=>rfl,fun f n es e=>by cases e⟩
  |p+1=>simp[V.gf]at hv
 obtain⟨gn,r1,_,r3,r4⟩:=hR.called (reg:=[]) Bv HN lx rfl (fun p f h=>by simp[look]at h)
 refine⟨gn,r1,r3,fun b p hb ho=>r4 b p hb ?_ rfl⟩;show(if b<w.heap.size then _ else _)=_
 rw[ay (by omega),ho]
def St.full(S:St)(id:Nat):Bool:=match look id S.aW with
 |some (_::_)=>true
 |_=>false
theorem YT{id:Nat}{cs:List V}(h:look id S.aW=some cs)(cf:cs≠[]):S.full id=true:=by
 unfold St.full;rw[h];cases cs with
 |nil=>exact absurd rfl cf
 |cons=>rfl
def rm(S:St)(g:Gh)(w:World)(ids:List Nat):Gh :=
 {noCell g with m:=fun b=>if (ids.any fun id=>S.full id&&g.κ id==b)=true then (match w.heap[b]? with|some (.cells c _ _)=>c.size|_=>0) else g.m b }
theorem Iu(hR:R E g S a w)(ids:List Nat)(N:Nat):Le ⟨w.heap,g,N,[]⟩ ⟨w.heap,rm S g w ids,N,[]⟩ where
 size:=bV _
 cells:=fun _ _ _ _ h=>h
 m:=fun b _=>by
  show g.m b≤if _ then _ else g.m b
  split
  ·rename_i h
   simp only[GO,bS,dO]at h;obtain⟨id,_,h1,rfl⟩:=h;unfold St.full at h1;split at h1
   ·rename_i v cs ew
    rw[((hR.aW id _ ew).resolve_left (fun h=>by cases h.1)).2.2.1]
    exact y7 _
   ·cases h1
  ·exact bV _
 eK:=bV _
 γ:=fun _ _=>rfl
theorem YU{ids:List Nat}{id:Nat}{c:Array Value}{e:TypeId}{fz:Nat×Nat}(hh:w.heap[g.κ id]?=some (.cells c e fz))(hc:ids.contains id=true)(hf:S.full id=true):(rm S g w ids).m (g.κ id)=c.size:=by
 show(if _ then _ else _)=_
 rw[aM,hh];simp only[GO,bS,dO];exact⟨id,by simpa using hc,hf,rfl⟩
theorem alc(hR:R E g S a w){ids:List Nat}{id s off n:Nat}{rs:Sh}{u:V}{x:Value}(h:S.A4 ids rs id s off n=some u)(hl:bb (S.cx g w) (.fp id s off n) x):bb ⟨w.heap,rm S g w ids,0,[]⟩ u x:=by
 unfold St.A4 at h;cases hc:ids.contains id with
 |false=>rw[hc]at h;cases h
 |true =>
  rw[hc]at h;simp only[bG]at h;split at h
  ·rename_i cs ew
   cases hle:((s==rs.length)&&Nat.blt 0 rs.length&&Nat.ble (off*rs.length+n*rs.length) cs.length) with
   |false=>rw[hle]at h;cases h
   |true =>
    rw[hle]at h;simp only[bG]at h;split at h
    ·rename_i es mw
     cases h;simp only[bS,dO]at hle;obtain⟨⟨rfl,gy⟩,hle⟩:=hle;have gy:0<rs.length:=by simpa [AZ] using gy
     have hle:=il hle;obtain⟨cap,eo,hx⟩:∃cap,n≤cap∧x=.slice (some ⟨g.κ id,off*rs.length,none⟩) n cap:=by
      cases hl with
      |plain h _=>cases h
      |fp _ _ _ _ cap h=>exact⟨cap,h,rfl⟩
     subst hx;rcases mq n with h0|h0
     ·subst h0
      simp only[chunks,kc,Option.some.injEq]at mw;subst mw;exact .plain (.empty _ _ _ _) (fun _ _ _ e=>by cases e)
     have hpn:=Kz h0 gy;have cf:cs≠[]:=by intro e;subst e;simp at hle;omega
     obtain⟨cr,fZ,hm,c,e,hh,_,hj⟩:=(hR.aW id cs ew).resolve_left (fun h=>cf h.1);obtain⟨h1,h2⟩:=KO (X:=S.cx g w) (c:=c) (off:=off*rs.length) (fun j v hv=>(hj j v hv).2) (by omega) mw
     have zB:=YU (ids:=ids) (S:=S) (g:=g) hh hc (YT ew cf);have xg:cs.length≤c.size:=by
      rcases cF c.size cs.length with h|h
      ·obtain⟨_,y,hy,_⟩:=hj c.size cs[c.size] (fN h)
       simp at hy
      ·exact h
     have bE:g.κ id<w.heap.size:=by
      rcases cF (g.κ id) w.heap.size with h|h
      ·exact h
      ·simp[mF h]at hh
     rw[←h1];refine .plain (CJ (m:=(rm S g w ids).m) (h2.mono (Iu hR ids 0)) bE (by omega) (fun j y hj=>?_) ?_ _) (fun _ _ _ e=>by cases e)
     ·rw[kR hh]
      rw[iP]at hj;split at hj
      ·rw[mn]at hj;simpa using hj
      ·cases hj
     ·show _≤(rm S g w ids).m (g.κ id)
      rw[zB,h1];omega
    ·cases h
  ·cases h
theorem QY(hR:R E g S a w)(ids:List Nat):∀{args:List (Sh×Sh×bw)} {ops:List Operand} {vs:List V},(args.length=ops.length∧∀(i:Nat) rs sh x y,args[i]?=some (rs,sh,x)→ops[i]?=some y→bU y x=true)→lK S ids args=some vs →
  vs.length=ops.length∧∀(i:Nat) (v:V) (x:Value),vs[i]?=some v→(ops.map a.eval)[i]?=some x→bb ⟨w.heap,rm S g w ids,0,[]⟩ v x
 |[],[],vs,_,h=>by simp[lK]at h;subst h;simp
 |[],_::_,_,h,_=>by simp at h
 |_::_,[],_,h,_=>by simp at h
 |(rs,sh,x)::args,y::ops,vs,bu,h=>by
  simp only[lK]at h;split at h
  ·rename_i u us h1 h2
   cases h;have qY:∀v,S.ev x=some v→bb (S.cx g w) v (a.eval y):=fun v hv=>cY hR (bu.2 0 rs sh x y (by simp) (by simp)) hv
   have hr:bb ⟨w.heap,rm S g w ids,0,[]⟩ u (a.eval y):=by
    split at h1
    ·rename_i id s n zD
     unfold St.Cz at h1;cases hc:ids.contains id with
     |false=>rw[hc]at h1;cases h1
     |true =>
      rw[hc]at h1;simp only[bG]at h1;split at h1
      ·rename_i es kg
       cases h1;have hl:=qY _ zD;obtain⟨lU,n',he,hlen,uy⟩:=Hp hR hl kg;cases he;have hz:n=0→bb ⟨w.heap,rm S g w ids,0,[]⟩ (.slice none rs.length es) (a.eval y):=fun h0=>by
        subst h0;obtain rfl:=oo.1 hlen;refine .plain ?_ (fun _ _ _ e=>by cases e)
        rcases qR hl with⟨cap,_,_,e⟩ | ⟨_,e | ⟨q,e⟩,_⟩
        ·rw[e];exact .empty _ _ _ _
        ·rw[e];exact .nil _ _
        ·rw[e];exact .empty _ _ _ _
       rcases mq n with h0|h0
       ·exact hz h0
       obtain⟨cap,eo,hx,c,e,hh,fC,zF,cr,fZ,_⟩:=uy.resolve_left (fun h=>by omega)
       have Iv:∃cs,look id S.aW=some cs:=by
        unfold St.sk at kg;simp only at kg;split at kg
        ·rename_i cs h;exact⟨cs,h⟩
        ·cases kg
       obtain⟨cs,ew⟩:=Iv;have cf:cs≠[]:=by
        intro e;subst e;unfold St.sk at kg;simp only[ew]at kg;have h2:0<rs.length:=by
         rcases mq rs.length with h|h
         ·have h2:Nat.blt 0 rs.length=false:=by rw[h];rfl
          rw[h2]at kg;simp at kg
         ·exact h
        have:=Kz h0 h2;cases hle:Nat.ble (n*rs.length) ([]:List V).length with
        |false=>rw[hle]at kg;simp at kg
        |true =>
         have h3:=il hle;simp at h3;omega
       have hm:=YU (ids:=ids) (S:=S) (g:=g) hh hc (YT ew cf);have bE:g.κ id<w.heap.size:=by
        rcases cF (g.κ id) w.heap.size with h|h
        ·exact h
        ·simp[mF h]at hh
       rw[hx,← hlen];refine .plain (CJ (m:=(rm S g w ids).m) (zF.mono (Iu hR ids 0)) bE (by omega) (fun j y hj=>?_) ?_ _) (fun _ _ _ e=>by cases e)
       ·show cellAt w.heap (g.κ id) _=_
        rw[kR hh];rw[iP]at hj;split at hj
        ·simpa using hj
        ·cases hj
       ·show _≤(rm S g w ids).m (g.κ id)
        rw[hm,hlen,jV];exact fC
      ·cases h1
    ·rename_i id s off n zD
     exact alc hR h1 (qY _ zD)
    ·rename_i v _ _ zD
     exact(WV h1 (qY _ zD) 0).mono (Iu hR ids 0) (fun d=>.inl ⟨rfl,rfl,fun k hk=>by simp[look]at hk⟩)
    ·cases h1
   obtain⟨e,hx⟩:=QY hR ids (args:=args) (ops:=ops) ⟨by simpa using bu.1,fun i zH zL x' y' hi hj=>bu.2 (i+1) zH zL x' y' (by simpa using hi) (by simpa using hj)⟩ h2
   refine⟨by simp[e],fun i z zz hz tx=>?_⟩
   cases i with
   |zero=>simp at hz tx;subst hz;subst tx;exact hr
   |succ i=>exact hx i z zz (by simpa using hz) (by simpa using tx)
  ·cases h
theorem YV{id:Nat}:∀{pos:Nat} {vs us:List V} {o:Option (List V)},nK id pos vs=some (us,o)→∀v∈vs,v.ky=true
 |_,[],_,_,_,v,hv=>by cases hv
 |0,u::vs,us,o,h,v,hv=>by
  simp only[nK]at h;split at h
  ·rename_i t n es
   cases hc:(es.all (fun r=>r.length==n&&r.all V.sc)&&vs.all V.ky) with
   |false=>rw[hc]at h;cases h
   |true =>
    simp only[bS]at hc;rcases jB.1 hv with rfl|hv
    ·exact hc.1
    ·exact g8.1 hc.2 v hv
  ·cases h
 |p+1,u::vs,us,o,h,v,hv=>by
  simp only[nK]at h;cases hs:u.ky with
  |false=>rw[hs]at h;cases h
  |true =>
   rw[hs]at h;simp only[bG]at h;split at h
   ·rename_i h'
    rcases jB.1 hv with rfl|hv
    ·exact hs
    ·exact YV h' v hv
   ·cases h
theorem ald{X X':Cx}{v:V}{y:Value}(h:v.ky=true)(hh:X'.h=X.h)(hm:X'.g.m=X.g.m)(hr:bb X (strip v) y):bb X' (strip v) y:=by
 have sc:v.sc=true→bb X' (strip v) y:=fun hs=>by
  rw[(It hs).2.2];exact LW hs hr X'
 cases v with
 |slice t n es =>
  have:bb X (.slice none n es) y:=hr;cases this with
  |plain h _=>exact .plain (by rw[hh,hm];exact h) (fun _ _ _ e=>by cases e)
 |int|bool|str=>exact sc h
 |_=>simp[V.ky,V.sc]at h
theorem ale{X:Cx}{base q:Nat}{v:V}{y:Value}(h:v.ky=true)(hr:bb X (strip v) y)(hf:EI X base (fun _=>False) q v y)(X':Cx)(hh:X'.h=X.h)(hm:∀b,base≤b→X.g.m b≤X'.g.m b):bb X' (strip v) y:=by
 have xk:EI ⟨X.h,{ X.g with ow:=fun b=>if base≤b then X.g.ow b else .none },X.N,X.T⟩ base (fun _=>False) q v y:=fun f n es e=>(hf f n es e).imp (fun z=>z) fun⟨b,off,cap,c,e,h1,h2,h3,h4⟩ =>
  ⟨b,off,cap,c,e,h1,h2,by show(if base≤b then X.g.ow b else Ow.none)=_;rw[aM (h2.resolve_right fun h=>h)];exact h3,h4⟩
 have oZ:bb ⟨X.h,{ X.g with ow:=fun b=>if base≤b then X.g.ow b else .none },X.N,X.T⟩ (strip v) y:=ald (X:=X) h rfl rfl hr
 exact QW h oZ xk X' hh fun b hb=>hm b (by
  have hb:(if base≤b then X.g.ow b else Ow.none)=.tok q:=hb
  split at hb
  ·assumption
  ·cases hb)
theorem PB{o:Oper}{f:Operand}{args:Array Operand}{ts:Array TypeId}{fo:bw}{as:List (Sh×Sh×bw)}{ids:List Nat}{id pos:Nat}{C:bD}(ho:o.op=.call ⟨.value f,args,ts⟩)(hf:bU f fo=true)
  (has:as.length=args.toList.length∧∀(i:Nat) rs sh x y,as[i]?=some (rs,sh,x)→args.toList[i]?=some y→bU y x=true)
  (hC:∀f args G r G',C f args G=some (r,G')→vw P E.T f args G r G') (hn:S.eN id)
  (hR:R E g S a w) (hd:∀d,o.dst=some d→d<E.nt) (hrun:VO.run C o.dst S (.own fo as ids id pos)=some S'):ch P E o S S' a w:=by
 simp only[VO.run]at hrun;split at hrun
 ·rename_i nR vs yD qU
  split at hrun
  ·rename_i r G' kD
   have w6:=hC _ _ _ _ _ kD;obtain⟨fn,qw,w7,qx⟩:=w6.fn;have e1:a.eval f=.func (.func (jq nR)) #[] #[]:=by
    have hr:=cY hR hf yD;generalize a.eval f=y at hr;cases hr with
    |plain h _=>cases h
    |fn _ _ xs hl hx =>
     have:xs = #[]:=by
      apply D7;simpa using hl.symm
     rw[this]
   obtain⟨hl,hx⟩:=QY hR ids has qU;have fq:(execOp a.eval o).run P w=.ok (.enter (jq nR) (args.map a.eval)) w:=by
    simp[execOp,ho,resolve,e1,Deferred.ofValue,invoke,callFunc,qw];simp at qx;cases hb:fn.body with
    |none=>simp[hb]at w7
    |some c=>simp[qx]
   intro K Q hK;unfold Oper.wp;rw[fq,Oper.upon_enter];have Ae:=w6.run w (rm S g w ids) (args.toList.map a.eval) (oU.mono (X:=⟨w.heap,g,0,[]⟩) (X':=⟨w.heap,rm S g w ids,0,[]⟩) (Iu hR ids 0) hR.pk) ⟨fun i o h=>by simp at h,fun i o h=>by simp at h,fun b i h=>absurd (Pq g b i h).2 (by omega)⟩ (by simp;simpa using hl) hx
   have yE:(args.toList.map a.eval).toArray=args.map a.eval:=by
    apply m8;simp
   rw[yE]at Ae;refine Ae.mono fun e w' ⟨x,g',he,hext,hG,lx⟩=>?_;subst he;have jh:∀b,¬ kC (rm S g w ids) b:=fun b=>EN g b;have hold:∀b,b<w.heap.size→w'.heap[b]?=w.heap[b]?:=fun b hb=>(hext.kA b hb (fun i hi=>absurd hi (by simp)) (jh b)).1
   let m0:Nat→Nat:=fun b=>if b<w.heap.size then g.m b else g'.m b
   have Bv:Ext w (noCell g) 0 w' { g' with m:=m0 } G'.length :=
    ⟨hext.os,hext.tape,hext.output,hext.size,hext.eK,hext.γ,hext.γnew,fun b hb _ _=>⟨hold b hb,aM hb⟩,fun b hb hw=>absurd hw (EN g b),fun b p q hb h=>absurd (hext.iq b p q hb h) (jh b),hext.lv⟩
   have hv:∀v cs,kz id pos r=some (v,cs)→∃us ys,QX ⟨w'.heap,{ g' with m:=m0 },G'.length,[]⟩ w.heap.size pos id us ys cs∧∀X':Cx,(∀(k:Nat) (u:V) (y:Value),us[k]?=some u→ys[k]?=some y→bb X' u y)→bb X' v x:=fun v cs lS=>by
    obtain⟨ys,p1,p2,p3⟩:=lx;have Fb:∀vs us,r.gf=vs→nK id pos vs=some (us,cs)→QX ⟨w'.heap,{ g' with m:=m0 },G'.length,[]⟩ w.heap.size pos id us ys cs:=fun vs us qU ho=>by
     subst qU;have:=YS (X:=⟨w'.heap,{ g' with m:=m0 },G'.length,[]⟩) (k0:=0) ho p2.symm (fun k v y hv hy=>by
      obtain⟨q1,_,q3⟩:=p3 k v y hv hy;rw[jV];have q4:EI ⟨w'.heap,g',G'.length,[]⟩ w.heap.size (fun _=>False) k v y:=fun f n es e=>(q3 f n es e).imp (fun z=>z) fun⟨b,off,cap,c,e,h1,h2,h3⟩=>⟨b,off,cap,c,e,h1,.inl (h2.resolve_right (jh b)),h3⟩;have eg:∀b,w.heap.size≤b→m0 b=g'.m b:=fun b hb=>ay (by omega)
      refine⟨ale (YV ho v (fW hv)) q1 q4 _ rfl (fun b hb=>u6 (eg b hb).symm),fun f n es e=>(q4 f n es e).imp (fun z=>z) fun⟨b,off,cap,c,e,h1,h2,h3,h4,h5⟩=>?_⟩;refine⟨b,off,cap,c,e,h1,h2,h3,?_,h5⟩;show m0 b=_;rw[eg b (h2.resolve_right (fun h=>h))];exact h4)
     rwa [jV]at this
    unfold kz at lS;split at lS
    ·rename_i Ev
     split at lS
     ·rename_i us o' LX
      simp only[Option.some.injEq,Prod.mk.injEq]at lS;obtain⟨rfl,rfl⟩:=lS;have hr:=Fb _ us rfl LX;refine⟨us,ys,hr,fun X' h=>?_⟩;have hp:x=.tuple ys.toArray:=p1;rw[hp];have hlen:us.length=ys.length:=by cases o'<;>exact hr.1
      exact .tuple _ _ (by simpa using hlen) fun i v y hv hy=>h i v y hv (by simpa using hy)
     ·cases lS
    ·rename_i YW
     split at lS
     ·rename_i u o' LX
      simp only[Option.some.injEq,Prod.mk.injEq]at lS;obtain⟨rfl,rfl⟩:=lS;have YX:∀cs,r≠.agg cs:=fun cs e=>by
       subst e;cases pos<;>simp[nK,V.sc]at LX
      have hc:r.gf=[r]:=by
       cases r<;>first|rfl|(exact absurd rfl (YW _))|(exact absurd rfl (YX _))
      have hr:=Fb _ [u] hc LX;refine⟨[u],ys,hr,fun X' h=>?_⟩;have hp:ys=[x]:=by
       cases r<;>first|exact p1|(exact absurd rfl (YW _))|(exact absurd rfl (YX _))
      exact h 0 u x rfl (by rw[hp];rfl)
     ·cases lS
   split at hrun
   ·rename_i v cs lS
    cases hrun;obtain⟨us,ys,⟨_,b,Fi,c,e,h1,h2,h3,h4,h5,h6⟩,sG⟩:=hv v (some cs) lS;obtain⟨gn,r1,r2,r3⟩:=hR.alone Bv (fun i=>if i=b then 0 else m0 i) (fun i hi=>by
     rw[ay (by omega)]
     exact aM hi)
    obtain⟨gk,k1,k2,k3,k4⟩:=r1.alb (cs:=cs) (cpn:=Fi) hn (by rw[r2];exact aM rfl) (r3 b pos h1 h2) (iQ hR.same.size h1) h3 (fun j u hu=>by
     obtain⟨q1,y,q2,q3⟩:=h5 j u hu;exact⟨(It q1).1,(It q1).2.1 _,y,q2,q3 _⟩) h4
    exact hK gk _ _ (k1.put hd (sG _ (h6 _ rfl (fun b' oB=>by show m0 b'≤gk.m b';rw[k4,r2];simp only[ay oB];exact bV _) k2 k3)))
   ·rename_i v lS
    cases hrun;obtain⟨us,ys,⟨_,h1⟩,sG⟩:=hv v none lS;obtain⟨gn,r1,r2,_⟩:=hR.alone Bv m0 (fun i hi=>aM hi);exact hK gn _ _ (r1.put hd (sG _ (h1 _ rfl (fun b=>by show m0 b≤gn.m b;rw[r2];exact bV _))))
   ·cases hrun
  ·cases hrun
 ·cases hrun
theorem QZ:∀{as:List (Sh×bw)},lK S [] (as.map fun p=>([],p.1,p.2))=ni S as
 |[]=>rfl
 |(sh,x)::as=>by
  have p1:∀i s n,pM sh (.bR i s n)=none:=fun i s n=>by simp only[pM];split<;>rfl
  have p2:∀i s o n,pM sh (.fp i s o n)=none:=fun i s o n=>by simp only[pM];split<;>rfl
  simp only[oq,lK,ni,QZ (as:=as)];rcases S.ev x with _|v
  ·rfl
  ·cases v<;>first|rfl|(simp only[p1,p2,St.Cz,St.A4];rfl)
theorem ai8{o:Oper}{f:Operand}{args:Array Operand}{ts:Array TypeId}{fo:bw}{as:List (Sh×bw)}{id:Nat}{C:bD}(ho:o.op=.call ⟨.value f,args,ts⟩)(hf:bU f fo=true)
  (has:as.length=args.toList.length∧∀(i:Nat) sh x y,as[i]?=some (sh,x)→args.toList[i]?=some y→bU y x=true)
  (hC:∀f args G r G',C f args G=some (r,G')→vw P E.T f args G r G') (hn:S.eN id) (alf:o.dst.isSome=true)
  (hR:R E g S a w) (hd:∀d,o.dst=some d→d<E.nt) (hrun:VO.run C o.dst S (.sf fo as id)=some S'):ch P E o S S' a w:=by
 obtain⟨dd,Fk⟩:=OK.1 alf;simp only[VO.run]at hrun;split at hrun
 ·rename_i nR vs yD qU
  split at hrun
  ·rename_i r G' kD
   have vI:∀S0:St,(∀s v,s≠dd→look s S.env=some v→look s S0.env=some v)→(∀i cs,look i S.aW=some cs→look i S0.aW=some cs)→S0.bj=S.bj→S0.aA=S.aA →
     oE ({ S with env:=S.env.filter fun p => !(p.1==dd) }:St) S0:=fun S0 h1 h2 h3 h4=>by
    refine⟨fun s v e=>?_,h2,fun f k e=>by rw[h3];exact e,h4.symm⟩
    simp only[nk]at e;split at e
    ·cases e
    ·rename_i cf;exact h1 s v cf e
   have hnf:({ S with env:=S.env.filter fun p => !(p.1==dd) }:St).eN id:=P4.eN hn;have fin:∀{g1:Gh} {a1:Act} {w1:World} {G1:List aS} {x:Value} {u:V},R E g1 { S with env:=S.env.filter fun p => !(p.1==dd),aA:=G1 } a1 w1→a1.tmps[dd]?=some x→bb (({ S with aA:=G1 }:St).cx g1 w1) u x →
     R E g1 (({ S with aA:=G1 }:St).put (some dd) u) a1 w1:=fun {g1 a1 w1 G1 x u} r hx hr=>by
    refine⟨fun s v hs=>?_,r.aW,r.bj,r.aA,r.defers,r.js,r.same⟩;rw[Ep,dz]at hs;split at hs
    ·rename_i e;subst e;cases hs;exact⟨x,hx,hr⟩
    ·rename_i cf
     refine r.env s v ?_;show look s (S.env.filter fun p => !(p.1==dd))=some v;rw[nk,ay (fun e=>cf e.symm)];exact hs
   split at hrun
   ·rename_i lU n len cs lS
    cases hc:(lU==id&&Nat.blt 0 cs.length&&Nat.blt 0 len&&cs.all V.sc) with
    |false=>simp[hc]at hrun
    |true =>
    simp only[hc,bG]at hrun;simp only[bS,dO,g8]at hc;obtain⟨⟨⟨nQ,gy⟩,hlen⟩,C8⟩:=hc;have gy:0<cs.length:=by simpa [AZ] using gy
    have hlen:0<len:=by simpa [AZ] using hlen
    cases hrun;subst nQ;have Q0:=PB (id:=lU) (pos:=0) (S':={ S with aW:=(lU,cs)::S.aW }.put o.dst (.bR lU n len)) (as:=as.map fun p=>([],p.1,p.2)) (ids:=[]) ho hf ⟨by simpa using has.1,fun i rs sh x y h1 h2=>by simp at h1;obtain⟨a,b,h1,_,rfl,rfl⟩:=h1;exact has.2 i a b y h1 h2⟩ hC hn hR hd (by simp only[VO.run,yD,QZ,qU,kD,lS])
    intro K Q hK;refine Q0 K Q fun g1 a1 w1 fb=>?_;rw[Fk,Ep]at fb;obtain⟨x,hx,hr⟩:=fb.env dd (.bR lU n len) (by show look dd ((dd,V.bR lU n len)::S.env)=_;rw[dz,aM rfl])
    have eO:=fb.aW lU cs (by show look lU ((lU,cs)::S.aW)=_;rw[dz,aM rfl])
    have uA:R E g1 { S with env:=S.env.filter fun p => !(p.1==dd) } a1 w1:=fb.less (vI _ (fun s v cf h=>by show look s ((dd,V.bR lU n len)::S.env)=_;rw[dz,ay (fun e=>cf e.symm)];exact h)
     (fun i dS h=>by show look i ((lU,cs)::S.aW)=_;rw[dz,ay (fun e=>by subst e;rw[hn.obj]at h;cases h)];exact h) rfl rfl)
    rcases eO with⟨rfl,wW⟩ | ⟨cr,fZ,hm,c,e,hh,fU,hj⟩
    ·simp at gy
    ·obtain⟨cap,eo,xg,hxe⟩:∃cap,len≤cap∧cap*n=g1.cp lU∧x=.slice (some ⟨g1.κ lU,0,none⟩) len cap:=by
      rcases qR hr with h | ⟨h1,h2,h3⟩
      ·exact h
      ·omega
     obtain⟨g2,r1,r2,_⟩:=uA.P5 (n:=n) hnf cr fZ hm hh hxe eo (us:=cs) (fun j v hv=>by
      obtain⟨_,y,hy,qY⟩:=hj j v hv;have hs:=C8 v (fW hv);refine⟨by cases v<;>simp_all[V.sc,V.plain],y,hy,?_⟩
      cases v<;>simp[V.sc]at hs<;>(cases qY with|plain h _=>exact h))
     exact hK g2 _ _ (by rw[Fk];exact fin r1 hx r2)
   ·rename_i n lS
    cases hrun;have Q0:=PB (id:=id) (pos:=0) (S':=S.put o.dst (.dY n)) (as:=as.map fun p=>([],p.1,p.2)) (ids:=[]) ho hf ⟨by simpa using has.1,fun i rs sh x y h1 h2=>by simp at h1;obtain⟨a,b,h1,_,rfl,rfl⟩:=h1;exact has.2 i a b y h1 h2⟩ hC hn hR hd (by simp only[VO.run,yD,QZ,qU,kD,lS])
    intro K Q hK;refine Q0 K Q fun g1 a1 w1 fb=>?_;rw[Fk,Ep]at fb;obtain⟨g2,r1⟩:=Lp (n:=n) fb (s:=dd) (v:=.dY n) (by show look dd ((dd,V.dY n)::S.env)=_;rw[dz,aM rfl]) (fun x hx=>uk hx)
    refine hK g2 _ _ ?_;rw[Fk];refine⟨fun s v hs=>?_,r1.aW,r1.bj,r1.aA,r1.defers,r1.js,r1.same⟩;rw[Ep,dz]at hs;refine r1.env s v ?_;show look s ((dd,V.c5 S.aA.length n 0)::(dd,V.dY n)::S.env)=some v;rw[dz];split at hs
    ·rename_i e;rw[aM e];exact hs
    ·rename_i e;rw[ay e,dz,ay e];exact hs
   ·cases hrun
  ·cases hrun
 ·cases hrun
theorem ai9{o:Oper}{f:Operand}{args:Array Operand}{ts:Array TypeId}{fo:bw}{as:List (Sh×Sh×bw)}{ids:List Nat}{C:bD}(ho:o.op=.call ⟨.value f,args,ts⟩)(hf:bU f fo=true)
  (has:as.length=args.toList.length∧∀(i:Nat) rs sh x y,as[i]?=some (rs,sh,x)→args.toList[i]?=some y→bU y x=true)
  (hC:∀f args G r G',C f args G=some (r,G')→vw P E.T f args G r G')
  (hR:R E g S a w) (hd:∀d,o.dst=some d→d<E.nt) (hrun:VO.run C o.dst S (.se fo as ids)=some S'):ch P E o S S' a w:=by
 simp only[VO.run]at hrun;split at hrun
 ·rename_i nR vs yD qU
  split at hrun
  ·rename_i r G' kD
   cases C9:r.qk with
   |false=>rw[C9]at hrun;cases hrun
   |true =>
   rw[C9]at hrun;simp only[bG,Option.some.injEq]at hrun;subst hrun;have w6:=hC _ _ _ _ _ kD;obtain⟨fn,qw,w7,qx⟩:=w6.fn;have e1:a.eval f=.func (.func (jq nR)) #[] #[]:=by
    have hr:=cY hR hf yD;generalize a.eval f=y at hr;cases hr with
    |plain h _=>cases h
    |fn _ _ xs hl hx =>
     have:xs = #[]:=by
      apply D7;simpa using hl.symm
     rw[this]
   obtain⟨hl,hx⟩:=QY hR ids has qU;have fq:(execOp a.eval o).run P w=.ok (.enter (jq nR) (args.map a.eval)) w:=by
    simp[execOp,ho,resolve,e1,Deferred.ofValue,invoke,callFunc,qw];simp at qx;cases hb:fn.body with
    |none=>simp[hb]at w7
    |some c=>simp[qx]
   intro K Q hK;unfold Oper.wp;rw[fq,Oper.upon_enter];have Ae:=w6.run w (rm S g w ids) (args.toList.map a.eval) (oU.mono (X:=⟨w.heap,g,0,[]⟩) (X':=⟨w.heap,rm S g w ids,0,[]⟩) (Iu hR ids 0) hR.pk) ⟨fun i o h=>by simp at h,fun i o h=>by simp at h,fun b i h=>absurd (Pq g b i h).2 (by omega)⟩ (by simp;simpa using hl) hx
   have yE:(args.toList.map a.eval).toArray=args.map a.eval:=by
    apply m8;simp
   rw[yE]at Ae;refine Ae.mono fun e w' ⟨x,g',he,hext,hG,lx⟩=>?_;subst he;have jh:∀b,¬ kC (rm S g w ids) b:=fun b=>EN g b;have hold:∀b,b<w.heap.size→w'.heap[b]?=w.heap[b]?:=fun b hb=>(hext.kA b hb (fun i hi=>absurd hi (by simp)) (jh b)).1
   let m':Nat→Nat:=fun b=>if b<w.heap.size then g.m b else g'.m b
   have Bv:Ext w (noCell g) 0 w' { g' with m:=m' } G'.length :=
    ⟨hext.os,hext.tape,hext.output,hext.size,hext.eK,hext.γ,hext.γnew,fun b hb _ _=>⟨hold b hb,aM hb⟩,fun b hb hw=>absurd hw (EN g b),fun b p q hb h=>absurd (hext.iq b p q hb h) (jh b),hext.lv⟩
   obtain⟨gn,r1,_,_⟩:=hR.alone Bv m' (fun b hb=>aM hb);refine hK gn _ _ (r1.put hd ?_);obtain⟨ys,p1,p2,p3⟩:=lx;have sc:∀(k:Nat) (v:V) (y:Value),r.gf[k]?=some v→v.sc=true→ys[k]?=some y→bb (S.cx gn w') v y:=fun k v y hv hs hy=>LW hs (p3 k v y hv hy).1 _;cases r with
   |tuple vs =>
    simp only[V.qk,g8]at C9;have hp:x=.tuple ys.toArray:=p1;rw[hp];exact .tuple _ _ (by have:=p2;simp[V.gf]at this;simpa using this.symm) fun i v y hv hy=>sc i v y hv (C9 v (fW hv)) (by simpa using hy)
   |agg vs =>
    simp only[V.qk,g8]at C9;have hp:x=.agg ys.toArray:=p1;rw[hp];exact .agg _ _ (by have:=p2;simp[V.gf]at this;simpa using this.symm) fun i v y hv hy=>sc i v y hv (C9 v (fW hv)) (by simpa using hy)
   |_ =>
    have hp:ys=[x]:=p1;exact sc 0 _ x rfl C9 (by rw[hp];rfl)
  ·cases hrun
 ·cases hrun
end
end Go.Vm
