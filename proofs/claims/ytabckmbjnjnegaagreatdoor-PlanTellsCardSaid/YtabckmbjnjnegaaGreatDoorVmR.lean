/- - -/
import Derived.Test.YtabckmbjnjnegaaGreatDoorVmQ
import Derived.Test.YtabckmbjnjnegaaGreatDoorVmV
namespace Go.Vm
set_option linter.all false
section
variable {P:Program} {E:Entry} {g g':Gh} {S S':St} {a:Act} {w w':World}
variable{X:Cx}{v:V}{y:Value}
def ON(h:v.sc=true)(hr:bh X (strip v) y)(X':Cx):bh X' v y:=by
 cases v<;>simp[V.sc]at h
 .rw[oA hr];exact .plain (.int _ _) (wG rfl)
 .rw[CX hr];exact .plain (.bool _) (wG rfl)
 .obtain⟨z,rfl,e⟩:=bh.DC hr
  subst e;exact .plain (.str _) (wG rfl)
def KK(h:v.sc=true):v.c5=true/\(∀d,v.cI d=false)/\strip v=v:=by
 cases v<;>simp[V.sc]at h<;>exact⟨rfl,λ_=>rfl,rfl⟩
variable{base q:Nat}
def Ut(h:v.lO=true)(hr:bh X (strip v) y)(hf:G6 X base (λ_=>False) q v y)(X':Cx)(hh:X'.h=X.h)(hm:∀b,X.g.ow b=.tok q->X.g.m b<=X'.g.m b):bh X' (strip v) y:=by
 have sc:v.sc=true->bh X' (strip v) y:=λhs=>by
  rw[(KK hs).2.2];exact ON hs hr X'
 cases v with
 |slice t n es =>
  cases t with
  |none=>simp[V.lO,V.sc]at h
  |some t =>
   simp only[V.lO,iW,bZ,ec]at h;have hv:fK X.h X.g.m (.slice none n es) y:=by
    have:bh X (.slice none n es) y:=hr;cases this with|plain h _=>exact h
   have go:fK X'.h X'.g.m (.slice none n es) y:=by
    cases hv with
    |nil=>exact .nil _ _
    |empty _ _ a cap=>exact .empty _ _ a cap
    |slice _ _ _ b off cap ys hb eM jG hc JZ hp uu =>
     by_cases he:es=[]
     .subst he
      exact .empty _ _ _ cap
     rcases hf t n es rfl with⟨e,_⟩ | ⟨b',off',uy,c,e,h1,_,h3,_,_,_,_,_⟩
     .exact absurd e he
     .injection h1 with h1 _ _
      injection h1 with h1;injection h1 with h4 h5 _;subst h4;refine .slice none n es b off cap ys (by rw[hh];exact hb) eM jG (λi row j v hi hj=>by rw[hh];exact hc i row j v hi hj) (λi row j v hi hj=>?_) hp (iO uu (hm b h3))
      have hs:=(h row (gw hi)).2 v (gw hj);have h6:=JZ i row j v hi hj;generalize ys i j=z at h6 ⊢;cases v<;>simp[V.sc]at hs
      .cases h6;exact .int _ _
      .cases h6;exact .bool _
      .cases h6;exact .str _
   exact .plain go (λ_ _ _ e=>by cases e)
 |_=>exact sc (by simpa [V.lO] using h)
def Uu(X:Cx)(base p id:Nat)(us:List V)(ys:List Value):Option (List V)->Prop
 |none=>us.length=ys.length/\∀(X':Cx),X'.h=X.h->(∀b,X.g.m b<=X'.g.m b)->∀(k:Nat) (u:V) (y:Value),us[k]?=some u->ys[k]?=some y->bh X' u y
 |some cs=>us.length=ys.length/\∃b HE c e,base<=b/\X.g.ow b=.tok p/\X.h[b]?=some (.cells c e (0,0))/\HE<=c.size /\
   (∀(j:Nat) (u:V),cs[j]?=some u->u.sc=true/\∃y,c[j]?=some y/\∀X':Cx,bh X' u y) /\
   ∀X':Cx,X'.h=X.h->(∀b',b'≠b->X.g.m b'<=X'.g.m b')->X'.g.κ id=b->X'.g.cp id=HE->∀(k:Nat) (u:V) (y:Value),us[k]?=some u->ys[k]?=some y->bh X' u y
def acp{X:Cx}{base id:Nat}:∀{pos k0:Nat} {vs us:List V} {ys:List Value} {o:Option (List V)},pD id pos vs=some (us,o)->vs.length=ys.length ->
  (∀(k:Nat) (v:V) (y:Value),vs[k]?=some v->ys[k]?=some y->bh X (strip v) y/\G6 X base (λ_=>False) (k0+k) v y)->Uu X base (k0+pos) id us ys o
 |_,_,[],_,_,_,h,_,_=>by cases ‹Nat› <;> simp[pD]at h
 |0,_,_::_,_,[],_,_,hl,_=>by simp at hl
 |0,k0,v::vs,us,y::ys,o,h,hl,hr=>by
  simp only[pD]at h;split at h
  next t n es=>
   cases hc:(es.all (λr=>r.length==n&&r.all V.sc)&&vs.all V.lO) with
   |false=>simp[hc]at h
   |true =>
    simp only[hc,bW]at h;simp only[bZ,iW,ec]at hc;obtain⟨h0,hf⟩:=hr 0 _ y rfl rfl;have xQ:∀(X':Cx),X'.h=X.h->(∀b,X.g.ow b≠.tok k0->X.g.m b<=X'.g.m b)->∀(k:Nat) (u:V) (z:Value),(vs.map strip)[k]?=some u->ys[k]?=some z->bh X' u z:=λX' hh hm k u z hu hz=>by
     rw[xq]at hu;cases hk:vs[k]? with
     |none=>simp[hk]at hu
     |some u0 =>
      simp[hk]at hu;subst hu;obtain⟨q1,q2⟩:=hr (k+1) u0 z (by simpa using hk) (by simpa using hz)
      exact Ut (hc.2 u0 (gw hk)) q1 q2 X' hh (λb hb=>hm b (λe=>by rw[hb]at e;injection e with e;omega))
    cases he:es.isEmpty with
    |true =>
     simp only[he,bW,Option.some.injEq,Prod.mk.injEq]at h;obtain⟨rfl,rfl⟩:=h;have he:es=[]:=by simpa using he
     subst he;refine⟨by simpa using hl,λX' hh hm k u z hu hz=>?_⟩
     cases k with
     |zero =>
      simp at hu hz;subst hu;subst hz;rcases hf t n [] rfl with⟨_,e⟩ | ⟨b,off,cap,c,e,_,_,_,_,_,_,_,h9⟩
      .exact .er e
      .simp at h9
     |succ k=>exact xQ X' hh (λb _=>hm b) k u z (by simpa using hu) (by simpa using hz)
    |false =>
     simp only[he,gL,Option.some.injEq,Prod.mk.injEq]at h;obtain⟨rfl,rfl⟩:=h;have cy:es≠[]:=by intro e;subst e;simp at he
     rcases hf t n es rfl with⟨e,_⟩ | ⟨b,off,cap,c,e,h1,h2,h3,_,h5,h6,h7,_⟩
     .exact absurd e cy
     .subst h7
      have hv:fK X.h X.g.m (.slice none n es) y:=by
       have:bh X (.slice none n es) y:=h0;cases this with|plain h _=>exact h
      rcases Nx hv with⟨e,_⟩ | ⟨e,_⟩ | ⟨b',off',uy,l,q1,q2,q3,q4⟩
      .exact absurd e cy
      .exact absurd e cy
      .rw[q1]at h1
       injection h1 with r1 r2 r3;injection r1 with r1;injection r1 with r4 r5 r6;subst r4;subst r5;subst r3;obtain⟨f1,f2⟩:=Bu q4;refine⟨by simpa using hl,b',uy*n,c,e,h2.resolve_right (λh=>h),h3,h5,by omega,λj u hu=>?_,λX' hh hm k1 k2 k u z hu hz=>?_⟩
       .obtain⟨_,z,BE,EC⟩:=f2 j u hu
        have E6:u.sc=true:=by
         obtain⟨r,sd,pJ⟩:=RZ.1 (gw hu);exact(hc.1 r sd).2 u pJ
        have ky:=q3 j z BE;rw[mn h5,kX]at ky;refine⟨E6,z,ky,λX'=>ON (X:=X) E6 ?_ X'⟩;rw[(KK E6).2.2];exact .plain EC (wG (by cases u<;>simp_all[V.sc,V.plain]))
       .cases k with
        |zero =>
         simp at hu hz;subst hu;subst hz;rw[q1,<- k1];exact .bY id n es.length uy q2 k2.symm
        |succ k=>exact xQ X' hh (λb2 my=>hm b2 (λe=>my (by rw[e];exact h3))) k u z (by simpa using hu) (by simpa using hz)
  .cases h
 |pos+1,k0,v::vs,us,[],o,h,hl,_=>by simp at hl
 |pos+1,k0,v::vs,us,y::ys,o,h,hl,hr=>by
  simp only[pD]at h;cases hs:v.lO with
  |false=>simp[hs]at h
  |true =>
   simp only[hs,bW]at h;split at h
   next mN o' h'=>
    simp only[Option.some.injEq,Prod.mk.injEq]at h;obtain⟨rfl,rfl⟩:=h;have ih:=acp (k0:=k0+1) h' (by simpa using hl) (λk v z hv hz=>by
     have:=hr (k+1) v z (by simpa using hv) (by simpa using hz)
     rw[show k0+(k+1)=k0+1+k from by omega]at this
     exact this)
    obtain⟨yS,h01⟩:=hr 0 v y rfl rfl;have h0:∀X':Cx,X'.h=X.h->(∀b,X.g.ow b=.tok (k0+0)->X.g.m b<=X'.g.m b)->bh X' (strip v) y:=λX' hh hm=>Ut hs yS h01 X' hh hm;rw[show k0+1+pos=k0+(pos+1) from by omega]at ih
    cases o' with
    |none =>
     obtain⟨i1,i2⟩:=ih;refine⟨by simp[i1],λX' hh hm k u z hu hz=>?_⟩
     cases k with
     |zero=>simp at hu hz;subst hu;subst hz;exact h0 X' hh (λb _=>hm b)
     |succ k=>exact i2 X' hh hm k u z (by simpa using hu) (by simpa using hz)
    |some cs =>
     obtain⟨i1,b,HE,c,e,i2,i3,i4,i5,i6,i7⟩:=ih;refine⟨by simp[i1],b,HE,c,e,i2,i3,i4,i5,i6,λX' hh hm k1 k2 k u z hu hz=>?_⟩
     cases k with
     |zero=>simp at hu hz;subst hu;subst hz;exact h0 X' hh (λb2 my=>hm b2 (λe=>by rw[e,i3]at my;injection my with e2;omega))
     |succ k=>exact i7 X' hh hm k1 k2 k u z (by simpa using hu) (by simpa using hz)
   .cases h
variable{id:Nat}{c:Array Value}{e:TypeId}
def R.apN(hR:R E g S a w){b:Nat}(hn:S.fa id)(hm:g.m b=0)(cJ:g.ow b=.none)(hH:E.w0.heap.size<=b)(hh:w.heap[b]?=some (.cells c e (0,0)))
  {cs:List V} (eR:∀(j:Nat) (v:V),cs[j]?=some v->v.c5=true/\v.cI id=false/\∃y,c[j]?=some y/\bh (S.cx g w) v y) {cpn:Nat} (hcpn:cpn<=c.size) :
  ∃g',R E g' { S with aY:=(id,cs)::S.aY } a w/\g'.κ id=b/\g'.cp id=cpn/\g'.m=g.m:=by
 let g':Gh:={ g with κ:=du g.κ id b,cp:=du g.cp id cpn,ow:=du g.ow b (.obj id) }
 have t:Touch E g S w g' S.bo S.aC.length w b (some id) none :=
  {os:=rfl,tape:=rfl,output:=rfl,size:=b8 _,heap:=λ_ _ _=>rfl,m:=λ_ _=>rfl,ow:=λ_ hb=>g9 _ _ hb,
   κ:=λi hi=>g9 _ _ (λe=>hi (by rw[e])),cp:=λi hi=>g9 _ _ (λe=>hi (by rw[e])),τ:=λ_ _=>rfl,T:=λ_ _=>rfl,γ:=λ_ _=>rfl,eZ:=b8 _,
   γnew:=λi a b=>absurd a (by omega),fresh:=.inl hH,jw:=λp q _ e=>by(have e:du g.ow b (.obj id) b=.cell p q:=e);rw[ea]at e;exact nomatch e
   lv:=λi e=>by(have e:du g.ow b (.obj id) b=.aC i:=e);rw[ea]at e;exact nomatch e
   mM:=λ_ _ _ h=>h,sO:=λ_=>b8 _ }
 have nx:∀i,ke (S.cx g w) ⟨w.heap,g',S.aC.length,S.bo⟩ i\/i=id:=λi=>by
  by_cases hi:i=id
  .exact .inr hi
  .exact .inl (t.keeps hR (λe=>hi (by cases e;rfl)) (λe=>by cases e) (λ_ e=>by rw[cJ]at e;cases e))
 refine⟨g',R.qk t hR rfl rfl (λi=>(nx i).imp (λz=>z) λe=>by rw[e];exact hn) (λs v hs=>.inl hs) (λi ei ho=>?_) (λf k b hf hb=>.inl ⟨(λe=>by cases e),λ_ e=>by rw[cJ]at e;cases e⟩)
  (λi o ho=>.inl ⟨ho,λ_=>⟨λe=>(by rw[cJ]at e;cases e),λ_ e=>(by rw[cJ]at e;cases e)⟩⟩),ea _ _ _,ea _ _ _,rfl⟩
 rw[dO]at ho;by_cases hi:id=i
 .subst hi
  rw[aJ rfl]at ho;cases ho;refine .inr ⟨?_,?_,?_,c,e,?_,(by show du g.cp _ _ _<=_;rw[ea];exact hcpn),λj v hj=>?_⟩
  .show du g.ow _ _ (du g.κ _ _ _)=_;rw[ea,ea]
  .show _<=du g.κ _ _ _;rw[ea];exact hH
  .show g.m (du g.κ _ _ _)=_;rw[ea];exact hm
  .show w.heap[du g.κ _ _ _]?=_;rw[ea];exact hh
  .obtain⟨q1,q2,y,q3,q4⟩:=eR j v hj
   exact⟨q1,y,q3,q4.mono t.le λi=>(nx i).imp (λz=>z) λe=>by rw[e];exact q2⟩
 .rw[ax hi]at ho
  exact .inl ⟨ho,λe=>hi (by cases e;rfl),λ_ e=>by rw[cJ]at e;cases e⟩
def R.alone(hR:R E g S a w){N:Nat}(hx:Ext w (noCell g) 0 w' g' N)(m':Nat->Nat)(qu:∀b,b<w.heap.size->m' b=g.m b) :
  ∃gn,R E gn S a w'/\gn.m=m'/\∀b p,w.heap.size<=b->g'.ow b=.tok p->gn.ow b=.none:=by
 let g2:Gh:={ g' with m:=m',γ:=g.γ,ow:=λb=>if b<w.heap.size then g.ow b else match g'.ow b with | .aC _=>.none|q=>q }
 have hold:∀b,b<w.heap.size->w'.heap[b]?=w.heap[b]?/\m' b=g.m b:=λb hb=>⟨(hx.lQ b hb (λi hi=>absurd hi (by simp)) (Ha g b)).1,qu b hb⟩
 have Dh:Ext w g S.aC.length w' g2 S.aC.length:=⟨hx.os,hx.tape,hx.output,hx.size,b8 _,λ_ _=>rfl,λi a b=>absurd a (by omega),λb hb _ _=>hold b hb,
  λb hb _=>⟨λo y _ hy=>by rw[vy (hold b hb).1];exact hy,xr (hold b hb).2.symm⟩,λb p q hb h=>⟨p,q,by(have h:(if b<w.heap.size then _ else _)=Ow.cell p q:=h);rw[aJ hb]at h;exact h⟩,
  λb i h hb=>by(have h:(if b<w.heap.size then _ else _)=Ow.aC i:=h);rw[aJ hb]at h;exact⟨h,(hR.aC.z b i h).2⟩⟩
 have SS:∀i o,S.aC[i]?=some o->Ey w'.heap g2 (g2.γ i) o:=λi o hi=>by
  have h3:=hR.aC.own i o hi;cases o with
  |map es=>trivial
  |cells cs =>
   intro j n es y hj hy;have hy:cellAt w'.heap (g.γ i) j=some y:=hy;rw[vy (hold _ (GY hR hi (aad hj))).1]at hy;rcases h3 j n es y hj hy with h | ⟨q,cap,c',e',q1,q2,q3,q4,q5,q6⟩
   .exact .inl h
   .have qi:q<w.heap.size:=by
     rcases cS q w.heap.size with h|h
     .exact h
     .simp[ou h]at q4
    exact .inr ⟨q,cap,c',e',q1,by show(if q<w.heap.size then _ else _)=_;rw[aJ qi];exact q2,(hold q qi).2.trans q3,(hold q qi).1.trans q4,q5,q6⟩
 have SV:∀b i,g2.ow b=.aC i->g2.m b=0/\i<S.aC.length:=λb i h=>by
  have h:(if b<w.heap.size then g.ow b else match g'.ow b with | .aC _=>.none|q=>q)=Ow.aC i:=h
  split at h
  next hb=>
   obtain⟨z1,z2⟩:=hR.aC.z b i h;exact⟨(hold b hb).2.trans z1,z2⟩
  .split at h
   .cases h
   next q hq=>exact absurd h (hq i)
 have J8:vz w'.heap g2 S.aC:=⟨λi o hi=>by
  by_cases h0:o=.cells []
  .exact .inl h0
  refine .inr ?_;obtain⟨h1,h2⟩:=(hR.aC.obj i o hi).resolve_left h0;have bJ:=GY hR hi h0;obtain⟨q1,q2⟩:=hold _ bJ;have le:Le ⟨w.heap,g,S.aC.length,[]⟩ ⟨w'.heap,g2,S.aC.length,[]⟩ :=
   ⟨hx.size,λb o y ho hy=>by
    have hb:=CW hy;show cellAt w'.heap b o=some y;rw[vy (hold b hb).1];exact hy,λb hb=>xr (hold b hb).2.symm,b8 _,λ_ _=>rfl⟩
  refine⟨by show(if g.γ i<w.heap.size then _ else _)=_;rw[aJ bJ];exact h1,?_⟩
  cases o with
  |map es =>
   obtain⟨h3,c,e,h4,h5,h6⟩:=h2;refine⟨q2.trans h3,c,e,q1.trans h4,h5,λj v y hj hy=>?_⟩;obtain⟨h7,h8,h9,il⟩:=h6 j v y hj hy;exact⟨h7,h8,h9.mono le λd=>.inr (h7 d),il.mono le λd=>.inr (yP (h8 d))⟩
  |cells cs =>
   obtain⟨h3,c,e,h4,h5,h6⟩:=h2;refine⟨q2.trans h3,c,e,q1.trans h4,h5,λj v y hj hy=>?_⟩;obtain⟨h7,h8,h9⟩:=h6 j v y hj hy;exact⟨h7,h8,h9.mono le λd=>.inr (h8 d)⟩,SS,SV⟩
 have mR:Ap ⟨w'.heap,g2,S.aC.length,[]⟩ w.heap.size (lT g) (.bool true) (.bool true):=by
  refine⟨[.bool true],rfl,rfl,λp v y hv hy=>?_⟩
  match p with
  |0 =>
   simp[V.ia]at hv hy;subst hv;subst hy;exact⟨.plain (.bool _) (wG rfl),λ_=>rfl,λf n es e=>by cases e⟩
  |p+1=>simp[V.ia]at hv
 obtain⟨gn,r1,_,r3,r4⟩:=hR.called (reg:=[]) Dh J8 mR rfl (λp f h=>by simp[look]at h)
 refine⟨gn,r1,r3,λb p hb ho=>r4 b p hb ?_ rfl⟩;show(if b<w.heap.size then _ else _)=_
 rw[ax',ho]
def St.full(S:St)(id:Nat):Bool:=match look id S.aY with
 |some (_::_)=>true
 |_=>false
def acq{cs:List V}(h:look id S.aY=some cs)(cy:cs≠[]):S.full id=true:=by
 unfold St.full;rw[h];cases cs with
 |nil=>exact absurd rfl cy
 |cons=>rfl
def tS(S:St)(g:Gh)(w:World)(ids:List Nat):Gh :=
 {noCell g with m:=λb=>if (ids.any λid=>S.full id&&g.κ id==b)=true then (match w.heap[b]? with|some (.cells c _ _)=>c.size|_=>0) else g.m b }
def KL(hR:R E g S a w)(ids:List Nat)(N:Nat):Le ⟨w.heap,g,N,[]⟩ ⟨w.heap,tS S g w ids,N,[]⟩ where
 size:=b8 _
 cells:=λ_ _ _ _ h=>h
 m:=λb _=>by
  show g.m b<=if _ then _ else g.m b
  split
  next h=>
   simp only[Jh,bZ,ec]at h;obtain⟨id,_,h1,rfl⟩:=h;unfold St.full at h1;split at h1
   next v cs eR=>
    rw[((hR.aY id _ eR).resolve_left (λh=>by cases h.1)).2.2.1]
    exact A6 _
   .cases h1
  .exact b8 _
 eZ:=b8 _
 γ:=λ_ _=>rfl
variable{ids:List Nat}
def acr{fz:Nat×Nat}(hh:w.heap[g.κ id]?=some (.cells c e fz))(hc:ids.contains id=true)(hf:S.full id=true):(tS S g w ids).m (g.κ id)=c.size:=by
 show(if _ then _ else _)=_
 rw[aJ,hh];simp only[Jh,bZ,ec];exact⟨id,by simpa using hc,hf,rfl⟩
def apO(hR:R E g S a w){s off n:Nat}{rs:Sh}{u:V}{x:Value}(h:S.CS ids rs id s off n=some u)(hl:bh (S.cx g w) (.fQ id s off n) x):bh ⟨w.heap,tS S g w ids,0,[]⟩ u x:=by
 unfold St.CS at h;cases hc:ids.contains id with
 |false=>rw[hc]at h;cases h
 |true =>
  rw[hc]at h;simp only[bW]at h;split at h
  next cs eR=>
   cases hle:((s==rs.length)&&Nat.blt 0 rs.length&&Nat.ble (off*rs.length+n*rs.length) cs.length) with
   |false=>rw[hle]at h;cases h
   |true =>
    rw[hle]at h;simp only[bW]at h;split at h
    next es nY=>
     cases h;simp only[bZ,ec]at hle;obtain⟨⟨rfl,gR⟩,hle⟩:=hle;have gR:0<rs.length:=by simpa [CN] using gR
     have hle:=js hle;obtain⟨cap,eM,hx⟩:∃cap,n<=cap/\x=.slice (some ⟨g.κ id,off*rs.length,none⟩) n cap:=by
      cases hl with
      |plain h _=>cases h
      |fQ _ _ _ _ cap h=>exact⟨cap,h,rfl⟩
     subst hx;rcases nV n with h0|h0
     .subst h0
      simp only[chunks,ju,Option.some.injEq]at nY;subst nY;exact .plain (.empty _ _ _ _) (λ_ _ _ e=>by cases e)
     have hpn:=Nk h0 gR;have cy:cs≠[]:=by intro e;subst e;simp at hle;omega
     obtain⟨cJ,hH,hm,c,e,hh,_,hj⟩:=(hR.aY id cs eR).resolve_left (λh=>cy h.1);obtain⟨h1,h2⟩:=Nz (X:=S.cx g w) (c:=c) (off:=off*rs.length) (λj v hv=>(hj j v hv).2) (by omega) nY
     have uu:=acr (ids:=ids) (S:=S) (g:=g) hh hc (acq eR cy);have za:cs.length<=c.size:=by
      rcases cS c.size cs.length with h|h
      .obtain⟨_,y,hy,_⟩:=hj c.size cs[c.size] (eV h)
       simp at hy
      .exact h
     have bJ:g.κ id<w.heap.size:=by
      rcases cS (g.κ id) w.heap.size with h|h
      .exact h
      .simp[ou h]at hh
     rw[<-h1];refine .plain (EE (m:=(tS S g w ids).m) (h2.mono (KL hR ids 0)) bJ (by omega) (λj y hj=>?_) ?_ _) (λ_ _ _ e=>by cases e)
     .rw[mn hh]
      rw[jP]at hj;split at hj
      .rw[mJ]at hj;simpa using hj
      .cases hj
     .show _<=(tS S g w ids).m (g.κ id)
      rw[uu,h1];omega
    .cases h
  .cases h
def Ux(hR:R E g S a w)(ids:List Nat):∀{args:List (Sh×Sh×bG)} {ops:List Operand} {vs:List V},(args.length=ops.length/\∀(i:Nat) rs sh x y,args[i]?=some (rs,sh,x)->ops[i]?=some y->cc y x=true)->nm S ids args=some vs ->
  vs.length=ops.length/\∀(i:Nat) (v:V) (x:Value),vs[i]?=some v->(ops.map a.eval)[i]?=some x->bh ⟨w.heap,tS S g w ids,0,[]⟩ v x
 |[],[],vs,_,h=>by simp[nm]at h;subst h;simp
 |[],_::_,_,h,_=>by simp at h
 |_::_,[],_,h,_=>by simp at h
 |(rs,sh,x)::args,y::ops,vs,bE,h=>by
  simp only[nm]at h;split at h
  next u us h1 h2=>
   cases h;have tM:∀v,S.ev x=some v->bh (S.cx g w) v (a.eval y):=λv hv=>di hR (bE.2 0 rs sh x y (by simp) (by simp)) hv
   have hr:bh ⟨w.heap,tS S g w ids,0,[]⟩ u (a.eval y):=by
    split at h1
    next id s n Bb=>
     unfold St.Eu at h1;cases hc:ids.contains id with
     |false=>rw[hc]at h1;cases h1
     |true =>
      rw[hc]at h1;simp only[bW]at h1;split at h1
      next es ly=>
       cases h1;have hl:=tM _ Bb;obtain⟨nC,n',he,hlen,wM⟩:=JK hR hl ly;cases he;have hz:n=0->bh ⟨w.heap,tS S g w ids,0,[]⟩ (.slice none rs.length es) (a.eval y):=λh0=>by
        subst h0;obtain rfl:=pz.1 hlen;refine .plain ?_ (λ_ _ _ e=>by cases e)
        rcases tH hl with⟨cap,_,_,e⟩ | ⟨_,e | ⟨q,e⟩,_⟩
        .rw[e];exact .empty _ _ _ _
        .rw[e];exact .nil _ _
        .rw[e];exact .empty _ _ _ _
       rcases nV n with h0|h0
       .exact hz h0
       obtain⟨cap,eM,hx,c,e,hh,gy,Be,cJ,hH,_⟩:=wM.resolve_left (λh=>by omega)
       have KM:∃cs,look id S.aY=some cs:=by
        unfold St.uo at ly;simp only at ly;split at ly
        next cs h=>exact⟨cs,h⟩
        .cases ly
       obtain⟨cs,eR⟩:=KM;have cy:cs≠[]:=by
        intro e;subst e;unfold St.uo at ly;simp only[eR]at ly;have h2:0<rs.length:=by
         rcases nV rs.length with h|h
         .have h2:Nat.blt 0 rs.length=false:=by rw[h];rfl
          rw[h2]at ly;simp at ly
         .exact h
        have:=Nk h0 h2;cases hle:Nat.ble (n*rs.length) ([]:List V).length with
        |false=>rw[hle]at ly;simp at ly
        |true =>
         have h3:=js hle;simp at h3;omega
       have hm:=acr (ids:=ids) (S:=S) (g:=g) hh hc (acq eR cy);have bJ:g.κ id<w.heap.size:=by
        rcases cS (g.κ id) w.heap.size with h|h
        .exact h
        .simp[ou h]at hh
       rw[hx,<- hlen];refine .plain (EE (m:=(tS S g w ids).m) (Be.mono (KL hR ids 0)) bJ (by omega) (λj y hj=>?_) ?_ _) (λ_ _ _ e=>by cases e)
       .show cellAt w.heap (g.κ id) _=_
        rw[mn hh];rw[jP]at hj;split at hj
        .simpa using hj
        .cases hj
       .show _<=(tS S g w ids).m (g.κ id)
        rw[hm,hlen,kX];exact gy
      .cases h1
    next id s off n Bb=>
     exact apO hR h1 (tM _ Bb)
    next v _ _ Bb=>
     exact(aan h1 (tM _ Bb) 0).mono (KL hR ids 0) (λd=>.inl ⟨rfl,rfl,λk hk=>by simp[look]at hk⟩)
    .cases h1
   obtain⟨e,hx⟩:=Ux hR ids (args:=args) (ops:=ops) ⟨by simpa using bE.1,λi Bi Bo x' y' hi hj=>bE.2 (i+1) Bi Bo x' y' (by simpa using hi) (by simpa using hj)⟩ h2
   refine⟨by simp[e],λi z zz hz vI=>?_⟩
   cases i with
   |zero=>simp at hz vI;subst hz;subst vI;exact hr
   |succ i=>exact hx i z zz (by simpa using hz) (by simpa using vI)
  .cases h
def acs{id:Nat}:∀{pos:Nat} {vs us:List V} {o:Option (List V)},pD id pos vs=some (us,o)->∀v∈vs,v.lO=true
 |_,[],_,_,_,v,hv=>by cases hv
 |0,u::vs,us,o,h,v,hv=>by
  simp only[pD]at h;split at h
  next t n es=>
   cases hc:(es.all (λr=>r.length==n&&r.all V.sc)&&vs.all V.lO) with
   |false=>rw[hc]at h;cases h
   |true =>
    simp only[bZ]at hc;rcases iA.1 hv with rfl|hv
    .exact hc.1
    .exact iW.1 hc.2 v hv
  .cases h
 |p+1,u::vs,us,o,h,v,hv=>by
  simp only[pD]at h;cases hs:u.lO with
  |false=>rw[hs]at h;cases h
  |true =>
   rw[hs]at h;simp only[bW]at h;split at h
   next h'=>
    rcases iA.1 hv with rfl|hv
    .exact hs
    .exact acs h' v hv
   .cases h
def apP{X':Cx}(h:v.lO=true)(hh:X'.h=X.h)(hm:X'.g.m=X.g.m)(hr:bh X (strip v) y):bh X' (strip v) y:=by
 have sc:v.sc=true->bh X' (strip v) y:=λhs=>by
  rw[(KK hs).2.2];exact ON hs hr X'
 cases v with
 |slice t n es =>
  have:bh X (.slice none n es) y:=hr;cases this with
  |plain h _=>exact .plain (by rw[hh,hm];exact h) (λ_ _ _ e=>by cases e)
 |int|bool|str=>exact sc h
 |_=>simp[V.lO,V.sc]at h
def apQ(h:v.lO=true)(hr:bh X (strip v) y)(hf:G6 X base (λ_=>False) q v y)(X':Cx)(hh:X'.h=X.h)(hm:∀b,base<=b->X.g.m b<=X'.g.m b):bh X' (strip v) y:=by
 have zf:G6 ⟨X.h,{ X.g with ow:=λb=>if base<=b then X.g.ow b else .none },X.N,X.T⟩ base (λ_=>False) q v y:=λf n es e=>(hf f n es e).imp (λz=>z) λ⟨b,off,cap,c,e,h1,h2,h3,h4⟩ =>
  ⟨b,off,cap,c,e,h1,h2,by show(if base<=b then X.g.ow b else Ow.none)=_;rw[aJ (h2.resolve_right λh=>h)];exact h3,h4⟩
 have pJ:bh ⟨X.h,{ X.g with ow:=λb=>if base<=b then X.g.ow b else .none },X.N,X.T⟩ (strip v) y:=apP (X:=X) h rfl rfl hr
 exact Ut h pJ zf X' hh λb hb=>hm b (by
  have hb:(if base<=b then X.g.ow b else Ow.none)=.tok q:=hb
  split at hb
  .assumption
  .cases hb)
variable{o:Oper}{f:Operand}{args:Array Operand}{ts:Array TypeId}{fo:bG}{as:List (Sh×Sh×bG)}{C:bI}
def S6{pos:Nat}(ho:o.op=.call ⟨.value f,args,ts⟩)(hf:cc f fo=true)
  (has:as.length=args.toList.length/\∀(i:Nat) rs sh x y,as[i]?=some (rs,sh,x)->args.toList[i]?=some y->cc y x=true)
  (hC:∀f args G r G',C f args G=some (r,G')->xJ P E.T f args G r G') (hn:S.fa id)
  (hR:R E g S a w) (hd:∀d,o.dst=some d->d<E.nt) (hrun:VO.run C o.dst S (.own fo as ids id pos)=some S'):cC P E o S S' a w:=by
 simp only[VO.run]at hrun;split at hrun
 next pM vs Aq tJ=>
  split at hrun
  next r G' lU=>
   have yX:=hC _ _ _ _ _ lU;obtain⟨fn,s7,yY,s8⟩:=yX.fn;have e1:a.eval f=.func (.func (kb pM)) #[] #[]:=by
    have hr:=di hR hf Aq;generalize a.eval f=y at hr;cases hr with
    |plain h _=>cases h
    |fn _ _ xs hl hx =>
     have:xs = #[]:=by
      apply Gi;simpa using hl.symm
     rw[this]
   obtain⟨hl,hx⟩:=Ux hR ids has tJ;have fR:(execOp a.eval o).run P w=.ok (.enter (kb pM) (args.map a.eval)) w:=by
    simp[execOp,ho,resolve,e1,Deferred.ofValue,invoke,callFunc,s7];simp at s8;cases hb:fn.body with
    |none=>simp[hb]at yY
    |some c=>simp[s8]
   intro K Q hK;unfold Oper.wp;rw[fR,Oper.upon_enter];have BH:=yX.run w (tS S g w ids) (args.toList.map a.eval) (pF.mono (X:=⟨w.heap,g,0,[]⟩) (X':=⟨w.heap,tS S g w ids,0,[]⟩) (KL hR ids 0) hR.pk) ⟨λi o h=>by simp at h,λi o h=>by simp at h,λb i h=>absurd (SR g b i h).2 (by omega)⟩ (by simp;simpa using hl) hx
   have As:(args.toList.map a.eval).toArray=args.map a.eval:=by
    apply oU;simp
   rw[As]at BH;refine BH.mono λe w' ⟨x,g',he,hext,hG,mR⟩=>?_;subst he;have kI:∀b,¬ lT (tS S g w ids) b:=λb=>Ha g b;have hold:∀b,b<w.heap.size->w'.heap[b]?=w.heap[b]?:=λb hb=>(hext.lQ b hb (λi hi=>absurd hi (by simp)) (kI b)).1
   let m0:Nat->Nat:=λb=>if b<w.heap.size then g.m b else g'.m b
   have Dh:Ext w (noCell g) 0 w' { g' with m:=m0 } G'.length :=
    ⟨hext.os,hext.tape,hext.output,hext.size,hext.eZ,hext.γ,hext.γnew,λb hb _ _=>⟨hold b hb,aJ hb⟩,λb hb hw=>absurd hw (Ha g b),λb p q hb h=>absurd (hext.jw b p q hb h) (kI b),hext.lv⟩
   have hv:∀v cs,lP id pos r=some (v,cs)->∃us ys,Uu ⟨w'.heap,{ g' with m:=m0 },G'.length,[]⟩ w.heap.size pos id us ys cs/\∀X':Cx,(∀(k:Nat) (u:V) (y:Value),us[k]?=some u->ys[k]?=some y->bh X' u y)->bh X' v x:=λv cs nA=>by
    obtain⟨ys,p1,p2,p3⟩:=mR;have uI:∀vs us,r.ia=vs->pD id pos vs=some (us,cs)->Uu ⟨w'.heap,{ g' with m:=m0 },G'.length,[]⟩ w.heap.size pos id us ys cs:=λvs us tJ ho=>by
     subst tJ;have:=acp (X:=⟨w'.heap,{ g' with m:=m0 },G'.length,[]⟩) (k0:=0) ho p2.symm (λk v y hv hy=>by
      obtain⟨q1,_,q3⟩:=p3 k v y hv hy;rw[kX];have q4:G6 ⟨w'.heap,g',G'.length,[]⟩ w.heap.size (λ_=>False) k v y:=λf n es e=>(q3 f n es e).imp (λz=>z) λ⟨b,off,cap,c,e,h1,h2,h3⟩=>⟨b,off,cap,c,e,h1,.inl (h2.resolve_right (kI b)),h3⟩;have eF:∀b,w.heap.size<=b->m0 b=g'.m b:=λb hb=>ax (by omega)
      refine⟨apQ (acs ho v (gw hv)) q1 q4 _ rfl (λb hb=>xr (eF b hb).symm),λf n es e=>(q4 f n es e).imp (λz=>z) λ⟨b,off,cap,c,e,h1,h2,h3,h4,h5⟩=>?_⟩;refine⟨b,off,cap,c,e,h1,h2,h3,?_,h5⟩;show m0 b=_;rw[eF b (h2.resolve_right (λh=>h))];exact h4)
     rwa [kX]at this
    unfold lP at nA;split at nA
    next GO=>
     split at nA
     next us o' OO=>
      simp only[Option.some.injEq,Prod.mk.injEq]at nA;obtain⟨rfl,rfl⟩:=nA;have hr:=uI _ us rfl OO;refine⟨us,ys,hr,λX' h=>?_⟩;have hp:x=.tuple ys.toArray:=p1;rw[hp];have hlen:us.length=ys.length:=by cases o'<;>exact hr.1
      exact .tuple _ _ (by simpa using hlen) λi v y hv hy=>h i v y hv (by simpa using hy)
     .cases nA
    next hnt=>
     split at nA
     next u o' OO=>
      simp only[Option.some.injEq,Prod.mk.injEq]at nA;obtain⟨rfl,rfl⟩:=nA;have hna:∀cs,r≠.agg cs:=λcs e=>by
       subst e;cases pos<;>simp[pD,V.sc]at OO
      have hc:r.ia=[r]:=by
       cases r<;>first|rfl|(exact absurd rfl (hnt _))|(exact absurd rfl (hna _))
      have hr:=uI _ [u] hc OO;refine⟨[u],ys,hr,λX' h=>?_⟩;have hp:ys=[x]:=by
       cases r<;>first|exact p1|(exact absurd rfl (hnt _))|(exact absurd rfl (hna _))
      exact h 0 u x rfl (by rw[hp];rfl)
     .cases nA
   split at hrun
   next v cs nA=>
    cases hrun;obtain⟨us,ys,⟨_,b,HE,c,e,h1,h2,h3,h4,h5,h6⟩,uF⟩:=hv v (some cs) nA;obtain⟨gn,r1,r2,r3⟩:=hR.alone Dh (λi=>if i=b then 0 else m0 i) (λi hi=>by
     rw[ax']
     exact aJ hi)
    obtain⟨gk,k1,k2,k3,k4⟩:=r1.apN (cs:=cs) (cpn:=HE) hn (by rw[r2];exact aJ rfl) (r3 b pos h1 h2) (iO hR.same.size h1) h3 (λj u hu=>by
     obtain⟨q1,y,q2,q3⟩:=h5 j u hu;exact⟨(KK q1).1,(KK q1).2.1 _,y,q2,q3 _⟩) h4
    exact hK gk _ _ (k1.put hd (uF _ (h6 _ rfl (λb' kZ=>by show m0 b'<=gk.m b';rw[k4,r2];simp only[ax kZ];exact b8 _) k2 k3)))
   next v nA=>
    cases hrun;obtain⟨us,ys,⟨_,h1⟩,uF⟩:=hv v none nA;obtain⟨gn,r1,r2,_⟩:=hR.alone Dh m0 (λi hi=>aJ hi);exact hK gn _ _ (r1.put hd (uF _ (h1 _ rfl (λb=>by show m0 b<=gn.m b;rw[r2];exact b8 _))))
   .cases hrun
  .cases hrun
 .cases hrun
def Uy:∀{as:List (Sh×bG)},nm S [] (as.map λp=>([],p.1,p.2))=oZ S as
 |[]=>rfl
 |(sh,x)::as=>by
  have p1:∀i s n,r9 sh (.bY i s n)=none:=λi s n=>by simp only[r9];split<;>rfl
  have p2:∀i s o n,r9 sh (.fQ i s o n)=none:=λi s o n=>by simp only[r9];split<;>rfl
  simp only[nT,nm,oZ,Uy (as:=as)];rcases S.ev x with _|v
  .rfl
  .cases v<;>first|rfl|(simp only[p1,p2,St.Eu,St.CS];rfl)
def anD{as:List (Sh×bG)}(ho:o.op=.call ⟨.value f,args,ts⟩)(hf:cc f fo=true)
  (has:as.length=args.toList.length/\∀(i:Nat) sh x y,as[i]?=some (sh,x)->args.toList[i]?=some y->cc y x=true)
  (hC:∀f args G r G',C f args G=some (r,G')->xJ P E.T f args G r G') (hn:S.fa id) (apR:o.dst.isSome=true)
  (hR:R E g S a w) (hd:∀d,o.dst=some d->d<E.nt) (hrun:VO.run C o.dst S (.vv fo as id)=some S'):cC P E o S S' a w:=by
 obtain⟨dd,HG⟩:=R8.1 apR;simp only[VO.run]at hrun;split at hrun
 next pM vs Aq tJ=>
  split at hrun
  next r G' lU=>
   have xR:∀S0:St,(∀s v,s≠dd->look s S.env=some v->look s S0.env=some v)->(∀i cs,look i S.aY=some cs->look i S0.aY=some cs)->S0.bo=S.bo->S0.aC=S.aC ->
     qp ({ S with env:=S.env.filter λp => !(p.1==dd) }:St) S0:=λS0 h1 h2 h3 h4=>by
    refine⟨λs v e=>?_,h2,λf k e=>by rw[h3];exact e,h4.symm⟩
    simp only[pd]at e;split at e
    .cases e
    next cy=>exact h1 s v cy e
   have Uz:({ S with env:=S.env.filter λp => !(p.1==dd) }:St).fa id:=Tw.fa hn;have fin:∀{g1:Gh} {a1:Act} {w1:World} {G1:List aM} {x:Value} {u:V},R E g1 { S with env:=S.env.filter λp => !(p.1==dd),aC:=G1 } a1 w1->a1.tmps[dd]?=some x->bh (({ S with aC:=G1 }:St).cx g1 w1) u x ->
     R E g1 (({ S with aC:=G1 }:St).put (some dd) u) a1 w1:=λ{g1 a1 w1 G1 x u} r hx hr=>by
    refine⟨λs v hs=>?_,r.aY,r.bo,r.aC,r.defers,r.kr,r.same⟩;rw[GJ,dO]at hs;split at hs
    next e=>subst e;cases hs;exact⟨x,hx,hr⟩
    next cy=>
     refine r.env s v ?_;show look s (S.env.filter λp => !(p.1==dd))=some v;rw[pd,ax (λe=>cy e.symm)];exact hs
   split at hrun
   next nC n len cs nA=>
    cases hc:(nC==id&&Nat.blt 0 cs.length&&Nat.blt 0 len&&cs.all V.sc) with
    |false=>simp[hc]at hrun
    |true =>
    simp only[hc,bW]at hrun;simp only[bZ,ec,iW]at hc;obtain⟨⟨⟨pK,gR⟩,hlen⟩,E6⟩:=hc;have gR:0<cs.length:=by simpa [CN] using gR
    have hlen:0<len:=by simpa [CN] using hlen
    cases hrun;subst pK;have UA:=S6 (id:=nC) (pos:=0) (S':={ S with aY:=(nC,cs)::S.aY }.put o.dst (.bY nC n len)) (as:=as.map λp=>([],p.1,p.2)) (ids:=[]) ho hf ⟨by simpa using has.1,λi rs sh x y h1 h2=>by simp at h1;obtain⟨a,b,h1,_,rfl,rfl⟩:=h1;exact has.2 i a b y h1 h2⟩ hC hn hR hd (by simp only[VO.run,Aq,Uy,tJ,lU,nA])
    intro K Q hK;refine UA K Q λg1 a1 w1 eW=>?_;rw[HG,GJ]at eW;obtain⟨x,hx,hr⟩:=eW.env dd (.bY nC n len) (by show look dd ((dd,V.bY nC n len)::S.env)=_;rw[dO,aJ rfl])
    have fb:=eW.aY nC cs (by show look nC ((nC,cs)::S.aY)=_;rw[dO,aJ rfl])
    have pe:R E g1 { S with env:=S.env.filter λp => !(p.1==dd) } a1 w1:=eW.less (xR _ (λs v cy h=>by show look s ((dd,V.bY nC n len)::S.env)=_;rw[dO,ax (λe=>cy e.symm)];exact h)
     (λi ei h=>by show look i ((nC,cs)::S.aY)=_;rw[dO,ax (λe=>by subst e;rw[hn.obj]at h;cases h)];exact h) rfl rfl)
    rcases fb with⟨rfl,yS⟩ | ⟨cJ,hH,hm,c,e,hh,gM,hj⟩
    .simp at gR
    .obtain⟨cap,eM,za,hxe⟩:∃cap,len<=cap/\cap*n=g1.cp nC/\x=.slice (some ⟨g1.κ nC,0,none⟩) len cap:=by
      rcases tH hr with h | ⟨h1,h2,h3⟩
      .exact h
      .omega
     obtain⟨g2,r1,r2,_⟩:=pe.Tx (n:=n) Uz cJ hH hm hh hxe eM (us:=cs) (λj v hv=>by
      obtain⟨_,y,hy,tM⟩:=hj j v hv;have hs:=E6 v (gw hv);refine⟨by cases v<;>simp_all[V.sc,V.plain],y,hy,?_⟩
      cases v<;>simp[V.sc]at hs<;>(cases tM with|plain h _=>exact h))
     exact hK g2 _ _ (by rw[HG];exact fin r1 hx r2)
   next n nA=>
    cases hrun;have UA:=S6 (id:=id) (pos:=0) (S':=S.put o.dst (.er n)) (as:=as.map λp=>([],p.1,p.2)) (ids:=[]) ho hf ⟨by simpa using has.1,λi rs sh x y h1 h2=>by simp at h1;obtain⟨a,b,h1,_,rfl,rfl⟩:=h1;exact has.2 i a b y h1 h2⟩ hC hn hR hd (by simp only[VO.run,Aq,Uy,tJ,lU,nA])
    intro K Q hK;refine UA K Q λg1 a1 w1 eW=>?_;rw[HG,GJ]at eW;obtain⟨g2,r1⟩:=Od (n:=n) eW (s:=dd) (v:=.er n) (by show look dd ((dd,V.er n)::S.env)=_;rw[dO,aJ rfl]) (λx hx=>wF hx)
    refine hK g2 _ _ ?_;rw[HG];refine⟨λs v hs=>?_,r1.aY,r1.bo,r1.aC,r1.defers,r1.kr,r1.same⟩;rw[GJ,dO]at hs;refine r1.env s v ?_;show look s ((dd,V.cO S.aC.length n 0)::(dd,V.er n)::S.env)=some v;rw[dO];split at hs
    next e=>rw[aJ e];exact hs
    next e=>rw[ax e,dO,ax e];exact hs
   .cases hrun
  .cases hrun
 .cases hrun
def anE(ho:o.op=.call ⟨.value f,args,ts⟩)(hf:cc f fo=true)
  (has:as.length=args.toList.length/\∀(i:Nat) rs sh x y,as[i]?=some (rs,sh,x)->args.toList[i]?=some y->cc y x=true)
  (hC:∀f args G r G',C f args G=some (r,G')->xJ P E.T f args G r G')
  (hR:R E g S a w) (hd:∀d,o.dst=some d->d<E.nt) (hrun:VO.run C o.dst S (.vu fo as ids)=some S'):cC P E o S S' a w:=by
 simp only[VO.run]at hrun;split at hrun
 next pM vs Aq tJ=>
  split at hrun
  next r G' lU=>
   cases E7:r.tE with
   |false=>rw[E7]at hrun;cases hrun
   |true =>
   rw[E7]at hrun;simp only[bW,Option.some.injEq]at hrun;subst hrun;have yX:=hC _ _ _ _ _ lU;obtain⟨fn,s7,yY,s8⟩:=yX.fn;have e1:a.eval f=.func (.func (kb pM)) #[] #[]:=by
    have hr:=di hR hf Aq;generalize a.eval f=y at hr;cases hr with
    |plain h _=>cases h
    |fn _ _ xs hl hx =>
     have:xs = #[]:=by
      apply Gi;simpa using hl.symm
     rw[this]
   obtain⟨hl,hx⟩:=Ux hR ids has tJ;have fR:(execOp a.eval o).run P w=.ok (.enter (kb pM) (args.map a.eval)) w:=by
    simp[execOp,ho,resolve,e1,Deferred.ofValue,invoke,callFunc,s7];simp at s8;cases hb:fn.body with
    |none=>simp[hb]at yY
    |some c=>simp[s8]
   intro K Q hK;unfold Oper.wp;rw[fR,Oper.upon_enter];have BH:=yX.run w (tS S g w ids) (args.toList.map a.eval) (pF.mono (X:=⟨w.heap,g,0,[]⟩) (X':=⟨w.heap,tS S g w ids,0,[]⟩) (KL hR ids 0) hR.pk) ⟨λi o h=>by simp at h,λi o h=>by simp at h,λb i h=>absurd (SR g b i h).2 (by omega)⟩ (by simp;simpa using hl) hx
   have As:(args.toList.map a.eval).toArray=args.map a.eval:=by
    apply oU;simp
   rw[As]at BH;refine BH.mono λe w' ⟨x,g',he,hext,hG,mR⟩=>?_;subst he;have kI:∀b,¬ lT (tS S g w ids) b:=λb=>Ha g b;have hold:∀b,b<w.heap.size->w'.heap[b]?=w.heap[b]?:=λb hb=>(hext.lQ b hb (λi hi=>absurd hi (by simp)) (kI b)).1
   let m':Nat->Nat:=λb=>if b<w.heap.size then g.m b else g'.m b
   have Dh:Ext w (noCell g) 0 w' { g' with m:=m' } G'.length :=
    ⟨hext.os,hext.tape,hext.output,hext.size,hext.eZ,hext.γ,hext.γnew,λb hb _ _=>⟨hold b hb,aJ hb⟩,λb hb hw=>absurd hw (Ha g b),λb p q hb h=>absurd (hext.jw b p q hb h) (kI b),hext.lv⟩
   obtain⟨gn,r1,_,_⟩:=hR.alone Dh m' (λb hb=>aJ hb);refine hK gn _ _ (r1.put hd ?_);obtain⟨ys,p1,p2,p3⟩:=mR;have sc:∀(k:Nat) (v:V) (y:Value),r.ia[k]?=some v->v.sc=true->ys[k]?=some y->bh (S.cx gn w') v y:=λk v y hv hs hy=>ON hs (p3 k v y hv hy).1 _;cases r with
   |tuple vs =>
    simp only[V.tE,iW]at E7;have hp:x=.tuple ys.toArray:=p1;rw[hp];exact .tuple _ _ (by have:=p2;simp[V.ia]at this;simpa using this.symm) λi v y hv hy=>sc i v y hv (E7 v (gw hv)) (by simpa using hy)
   |agg vs =>
    simp only[V.tE,iW]at E7;have hp:x=.agg ys.toArray:=p1;rw[hp];exact .agg _ _ (by have:=p2;simp[V.ia]at this;simpa using this.symm) λi v y hv hy=>sc i v y hv (E7 v (gw hv)) (by simpa using hy)
   |_ =>
    have hp:ys=[x]:=p1;exact sc 0 _ x rfl E7 (by rw[hp];rfl)
  .cases hrun
 .cases hrun
end
