/- The value machine: results that become the caller's own. -/
import Derived.Test.YtocclbnghhaejaaGreatVmQ
import Derived.Test.YtocclbnghhaejaaGreatVmV
namespace Go.Vm
set_option linter.all false
section
variable {P:Program} {E:Entry} {g g':Gh} {S S':St} {a:Act} {w w':World}
theorem IE{X:Cx}{v:V}{y:Value}(h:v.sc=true)(hr:aZ X (strip v) y)(X':Cx):aZ X' v y:=by
 cases v<;>simp[V.sc]at h
 ·rw[lY hr];exact .plain (.int _ _) (tH rfl)
 ·rw[yS hr];exact .plain (.bool _) (tH rfl)
 ·obtain⟨z,rfl,e⟩:=aZ.zM hr
  subst e;exact .plain (.str _) (tH rfl)
theorem Fs{v:V}(h:v.sc=true):v.cI=true∧(∀d,v.cj d=false)∧strip v=v:=by
 cases v<;>simp[V.sc]at h<;>exact⟨rfl,fun _=>rfl,rfl⟩
theorem MY{X:Cx}{base q:Nat}{v:V}{y:Value}(h:v.j7=true)(hr:aZ X (strip v) y)(hf:Cy X base (fun _=>False) q v y)(X':Cx)(hh:X'.h=X.h)(hm:∀b,X.g.ow b=.tok q→X.g.m b≤X'.g.m b):aZ X' (strip v) y:=by
 have sc:v.sc=true→aZ X' (strip v) y:=fun hs=>by
  rw[(Fs hs).2.2];exact IE hs hr X'
 cases v with
 |slice t n es =>
  cases t with
  |none=>simp[V.j7,V.sc]at h
  |some t =>
   simp only[V.j7,List.all_eq_true,Bool.and_eq_true,beq_iff_eq]at h;have hv:fg X.h X.g.m (.slice none n es) y:=by
    have:aZ X (.slice none n es) y:=hr;cases this with|plain h _=>exact h
   have go:fg X'.h X'.g.m (.slice none n es) y:=by
    cases hv with
    |nil=>exact .nil _ _
    |empty _ _ a cap=>exact .empty _ _ a cap
    |slice _ _ _ b off cap ys hb eA iM hc ED hp wY =>
     by_cases he:es=[]
     ·subst he
      exact .empty _ _ _ cap
     rcases hf t n es rfl with⟨e,_⟩ | ⟨b',off',qu,c,e,h1,_,h3,_,_,_,_,_⟩
     ·exact absurd e he
     ·injection h1 with h1 _ _
      injection h1 with h1;injection h1 with h4 h5 _;subst h4;refine .slice none n es b off cap ys (by rw[hh];exact hb) eA iM (fun i row j v hi hj=>by rw[hh];exact hc i row j v hi hj) (fun i row j v hi hj=>?_) hp (Nat.le_trans wY (hm b h3))
      have hs:=(h row (List.mem_of_getElem? hi)).2 v (List.mem_of_getElem? hj);have h6:=ED i row j v hi hj;generalize ys i j=z at h6 ⊢;cases v<;>simp[V.sc]at hs
      ·cases h6;exact .int _ _
      ·cases h6;exact .bool _
      ·cases h6;exact .str _
   exact .plain go (fun _ _ _ e=>by cases e)
 |_=>exact sc (by simpa [V.j7] using h)
def MZ(X:Cx)(base p id:Nat)(us:List V)(ys:List Value):Option (List V)→Prop
 |none=>us.length=ys.length∧∀(X':Cx),X'.h=X.h→(∀b,X.g.m b≤X'.g.m b)→∀(k:Nat) (u:V) (y:Value),us[k]?=some u→ys[k]?=some y→aZ X' u y
 |some cs=>us.length=ys.length∧∃b Db c e,base≤b∧X.g.ow b=.tok p∧X.h[b]?=some (.cells c e (0,0))∧Db≤c.size ∧
   (∀(j:Nat) (u:V),cs[j]?=some u→u.sc=true∧∃y,c[j]?=some y∧∀X':Cx,aZ X' u y) ∧
   ∀X':Cx,X'.h=X.h→(∀b',b'≠b→X.g.m b'≤X'.g.m b')→X'.g.κ id=b→X'.g.cp id=Db→∀(k:Nat) (u:V) (y:Value),us[k]?=some u→ys[k]?=some y→aZ X' u y
theorem T6{X:Cx}{base id:Nat}:∀{pos k0:Nat} {vs us:List V} {ys:List Value} {o:Option (List V)},mK id pos vs=some (us,o)→vs.length=ys.length →
  (∀(k:Nat) (v:V) (y:Value),vs[k]?=some v→ys[k]?=some y→aZ X (strip v) y∧Cy X base (fun _=>False) (k0+k) v y)→MZ X base (k0+pos) id us ys o
 |_,_,[],_,_,_,h,_,_=>by cases ‹Nat› <;> simp[mK]at h
 |0,_,_::_,_,[],_,_,hl,_=>by simp at hl
 |0,k0,v::vs,us,y::ys,o,h,hl,hr=>by
  simp only[mK]at h;split at h
  ·rename_i t n es
   cases hc:(es.all (fun r=>r.length==n&&r.all V.sc)&&vs.all V.j7) with
   |false=>simp[hc]at h
   |true =>
    simp only[hc,cond_true]at h;simp only[Bool.and_eq_true,List.all_eq_true,beq_iff_eq]at hc;obtain⟨h0,hf⟩:=hr 0 _ y rfl rfl;have tR:∀(X':Cx),X'.h=X.h→(∀b,X.g.ow b≠.tok k0→X.g.m b≤X'.g.m b)→∀(k:Nat) (u:V) (z:Value),(vs.map strip)[k]?=some u→ys[k]?=some z→aZ X' u z:=fun X' hh hm k u z hu hz=>by
     rw[List.getElem?_map]at hu;cases hk:vs[k]? with
     |none=>simp[hk]at hu
     |some u0 =>
      simp[hk]at hu;subst hu;obtain⟨q1,q2⟩:=hr (k+1) u0 z (by simpa using hk) (by simpa using hz)
      exact MY (hc.2 u0 (List.mem_of_getElem? hk)) q1 q2 X' hh (fun b hb=>hm b (fun e=>by rw[hb]at e;injection e with e;omega))
    cases he:es.isEmpty with
    |true =>
     simp only[he,cond_true,Option.some.injEq,Prod.mk.injEq]at h;obtain⟨rfl,rfl⟩:=h;have he:es=[]:=by simpa using he
     subst he;refine⟨by simpa using hl,fun X' hh hm k u z hu hz=>?_⟩
     cases k with
     |zero =>
      simp at hu hz;subst hu;subst hz;rcases hf t n [] rfl with⟨_,e⟩ | ⟨b,off,cap,c,e,_,_,_,_,_,_,_,h9⟩
      ·exact .dR e
      ·simp at h9
     |succ k=>exact tR X' hh (fun b _=>hm b) k u z (by simpa using hu) (by simpa using hz)
    |false =>
     simp only[he,cond_false,Option.some.injEq,Prod.mk.injEq]at h;obtain⟨rfl,rfl⟩:=h;have cg:es≠[]:=by intro e;subst e;simp at he
     rcases hf t n es rfl with⟨e,_⟩ | ⟨b,off,cap,c,e,h1,h2,h3,_,h5,h6,h7,_⟩
     ·exact absurd e cg
     ·subst h7
      have hv:fg X.h X.g.m (.slice none n es) y:=by
       have:aZ X (.slice none n es) y:=h0;cases this with|plain h _=>exact h
      rcases Hv hv with⟨e,_⟩ | ⟨e,_⟩ | ⟨b',off',qu,l,q1,q2,q3,q4⟩
      ·exact absurd e cg
      ·exact absurd e cg
      ·rw[q1]at h1
       injection h1 with r1 r2 r3;injection r1 with r1;injection r1 with r4 r5 r6;subst r4;subst r5;subst r3;obtain⟨f1,f2⟩:=xn q4;refine⟨by simpa using hl,b',qu*n,c,e,h2.resolve_right (fun h=>h),h3,h5,by omega,fun j u hu=>?_,fun X' hh hm k1 k2 k u z hu hz=>?_⟩
       ·obtain⟨_,z,xD,wZ⟩:=f2 j u hu
        have A9:u.sc=true:=by
         obtain⟨r,uf,nL⟩:=List.mem_flatten.1 (List.mem_of_getElem? hu);exact(hc.1 r uf).2 u nL
        have iX:=q3 j z xD;rw[kZ h5,Nat.zero_add]at iX;refine⟨A9,z,iX,fun X'=>IE (X:=X) A9 ?_ X'⟩;rw[(Fs A9).2.2];exact .plain wZ (tH (by cases u<;>simp_all[V.sc,V.plain]))
       ·cases k with
        |zero =>
         simp at hu hz;subst hu;subst hz;rw[q1,← k1];exact .bQ id n es.length qu q2 k2.symm
        |succ k=>exact tR X' hh (fun b2 wq=>hm b2 (fun e=>wq (by rw[e];exact h3))) k u z (by simpa using hu) (by simpa using hz)
  ·cases h
 |pos+1,k0,v::vs,us,[],o,h,hl,_=>by simp at hl
 |pos+1,k0,v::vs,us,y::ys,o,h,hl,hr=>by
  simp only[mK]at h;cases hs:v.j7 with
  |false=>simp[hs]at h
  |true =>
   simp only[hs,cond_true]at h;split at h
   ·rename_i kH o' h'
    simp only[Option.some.injEq,Prod.mk.injEq]at h;obtain⟨rfl,rfl⟩:=h;have ih:=T6 (k0:=k0+1) h' (by simpa using hl) (fun k v z hv hz=>by
     have:=hr (k+1) v z (by simpa using hv) (by simpa using hz)
     rw[show k0+(k+1)=k0+1+k from by omega]at this
     exact this)
    obtain⟨uS,h01⟩:=hr 0 v y rfl rfl;have h0:∀X':Cx,X'.h=X.h→(∀b,X.g.ow b=.tok (k0+0)→X.g.m b≤X'.g.m b)→aZ X' (strip v) y:=fun X' hh hm=>MY hs uS h01 X' hh hm;rw[show k0+1+pos=k0+(pos+1) from by omega]at ih
    cases o' with
    |none =>
     obtain⟨i1,i2⟩:=ih;refine⟨by simp[i1],fun X' hh hm k u z hu hz=>?_⟩
     cases k with
     |zero=>simp at hu hz;subst hu;subst hz;exact h0 X' hh (fun b _=>hm b)
     |succ k=>exact i2 X' hh hm k u z (by simpa using hu) (by simpa using hz)
    |some cs =>
     obtain⟨i1,b,Db,c,e,i2,i3,i4,i5,i6,i7⟩:=ih;refine⟨by simp[i1],b,Db,c,e,i2,i3,i4,i5,i6,fun X' hh hm k1 k2 k u z hu hz=>?_⟩
     cases k with
     |zero=>simp at hu hz;subst hu;subst hz;exact h0 X' hh (fun b2 wq=>hm b2 (fun e=>by rw[e,i3]at wq;injection wq with e2;omega))
     |succ k=>exact i7 X' hh hm k1 k2 k u z (by simpa using hu) (by simpa using hz)
   ·cases h
theorem R.afA(hR:R E g S a w){id b:Nat}(hn:S.eG id)(hm:g.m b=0)(cA:g.ow b=.none)(gf:E.w0.heap.size≤b){c:Array Value}{e:TypeId}(hh:w.heap[b]?=some (.cells c e (0,0)))
  {cs:List V} (ei:∀(j:Nat) (v:V),cs[j]?=some v→v.cI=true∧v.cj id=false∧∃y,c[j]?=some y∧aZ (S.cx g w) v y) {cpn:Nat} (hcpn:cpn≤c.size) :
  ∃g',R E g' { S with aU:=(id,cs)::S.aU } a w∧g'.κ id=b∧g'.cp id=cpn∧g'.m=g.m:=by
 let g':Gh:={ g with κ:=cS g.κ id b,cp:=cS g.cp id cpn,ow:=cS g.ow b (.obj id) }
 have t:Touch E g S w g' S.bg S.aF.length w b (some id) none :=
  {os:=rfl,tape:=rfl,output:=rfl,size:=Nat.le_refl _,heap:=fun _ _ _=>rfl,m:=fun _ _=>rfl,ow:=fun _ hb=>fR _ _ hb,
   κ:=fun i hi=>fR _ _ (fun e=>hi (by rw[e])),cp:=fun i hi=>fR _ _ (fun e=>hi (by rw[e])),τ:=fun _ _=>rfl,T:=fun _ _=>rfl,γ:=fun _ _=>rfl,eN:=Nat.le_refl _,
   γnew:=fun i a b=>absurd a (by omega),fresh:=.inl gf,ib:=fun p q _ e=>by(have e:cS g.ow b (.obj id) b=.cell p q:=e);rw[dG]at e;exact nomatch e
   lv:=fun i e=>by(have e:cS g.ow b (.obj id) b=.aF i:=e);rw[dG]at e;exact nomatch e
   jK:=fun _ _ _ h=>h,oV:=fun _=>Nat.le_refl _ }
 have lg:∀i,iU (S.cx g w) ⟨w.heap,g',S.aF.length,S.bg⟩ i∨i=id:=fun i=>by
  by_cases hi:i=id
  ·exact .inr hi
  ·exact .inl (t.keeps hR (fun e=>hi (by cases e;rfl)) (fun e=>by cases e) (fun _ e=>by rw[cA]at e;cases e))
 refine⟨g',R.nK t hR rfl rfl (fun i=>(lg i).imp (fun z=>z) fun e=>by rw[e];exact hn) (fun s v hs=>.inl hs) (fun i dQ ho=>?_) (fun f k b hf hb=>.inl ⟨(fun e=>by cases e),fun _ e=>by rw[cA]at e;cases e⟩)
  (fun i o ho=>.inl ⟨ho,fun _=>⟨fun e=>(by rw[cA]at e;cases e),fun _ e=>(by rw[cA]at e;cases e)⟩⟩),dG _ _ _,dG _ _ _,rfl⟩
 rw[dA]at ho;by_cases hi:id=i
 ·subst hi
  rw[if_pos rfl]at ho;cases ho;refine .inr ⟨?_,?_,?_,c,e,?_,(by show cS g.cp _ _ _≤_;rw[dG];exact hcpn),fun j v hj=>?_⟩
  ·show cS g.ow _ _ (cS g.κ _ _ _)=_;rw[dG,dG]
  ·show _≤cS g.κ _ _ _;rw[dG];exact gf
  ·show g.m (cS g.κ _ _ _)=_;rw[dG];exact hm
  ·show w.heap[cS g.κ _ _ _]?=_;rw[dG];exact hh
  ·obtain⟨q1,q2,y,q3,q4⟩:=ei j v hj
   exact⟨q1,y,q3,q4.mono t.le fun i=>(lg i).imp (fun z=>z) fun e=>by rw[e];exact q2⟩
 ·rw[if_neg hi]at ho
  exact .inl ⟨ho,fun e=>hi (by cases e;rfl),fun _ e=>by rw[cA]at e;cases e⟩
theorem R.alone(hR:R E g S a w){N:Nat}(hx:Ext w (noCell g) 0 w' g' N)(m':Nat→Nat)(ub:∀b,b<w.heap.size→m' b=g.m b) :
  ∃gn,R E gn S a w'∧gn.m=m'∧∀b p,w.heap.size≤b→g'.ow b=.tok p→gn.ow b=.none:=by
 let g2:Gh:={ g' with m:=m',γ:=g.γ,ow:=fun b=>if b<w.heap.size then g.ow b else match g'.ow b with | .aF _=>.none|q=>q }
 have hold:∀b,b<w.heap.size→w'.heap[b]?=w.heap[b]?∧m' b=g.m b:=fun b hb=>⟨(hx.my b hb (fun i hi=>absurd hi (by simp)) (CD g b)).1,ub b hb⟩
 have y9:Ext w g S.aF.length w' g2 S.aF.length:=⟨hx.os,hx.tape,hx.output,hx.size,Nat.le_refl _,fun _ _=>rfl,fun i a b=>absurd a (by omega),fun b hb _ _=>hold b hb,
  fun b hb _=>⟨fun o y _ hy=>by rw[tE (hold b hb).1];exact hy,Nat.le_of_eq (hold b hb).2.symm⟩,fun b p q hb h=>⟨p,q,by(have h:(if b<w.heap.size then _ else _)=Ow.cell p q:=h);rw[if_pos hb]at h;exact h⟩,
  fun b i h hb=>by(have h:(if b<w.heap.size then _ else _)=Ow.aF i:=h);rw[if_pos hb]at h;exact⟨h,(hR.aF.z b i h).2⟩⟩
 have Lw:∀i o,S.aF[i]?=some o→AA w'.heap g2 (g2.γ i) o:=fun i o hi=>by
  have h3:=hR.aF.own i o hi;cases o with
  |map es=>trivial
  |cells cs =>
   intro j n es y hj hy;have hy:cellAt w'.heap (g.γ i) j=some y:=hy;rw[tE (hold _ (Cr hR hi (Rz hj))).1]at hy;rcases h3 j n es y hj hy with h | ⟨q,cap,c',e',q1,q2,q3,q4,q5,q6⟩
   ·exact .inl h
   ·have mz:q<w.heap.size:=by
     rcases Nat.lt_or_ge q w.heap.size with h|h
     ·exact h
     ·simp[Array.getElem?_eq_none h]at q4
    exact .inr ⟨q,cap,c',e',q1,by show(if q<w.heap.size then _ else _)=_;rw[if_pos mz];exact q2,(hold q mz).2.trans q3,(hold q mz).1.trans q4,q5,q6⟩
 have Lx:∀b i,g2.ow b=.aF i→g2.m b=0∧i<S.aF.length:=fun b i h=>by
  have h:(if b<w.heap.size then g.ow b else match g'.ow b with | .aF _=>.none|q=>q)=Ow.aF i:=h
  split at h
  ·rename_i hb
   obtain⟨z1,z2⟩:=hR.aF.z b i h;exact⟨(hold b hb).2.trans z1,z2⟩
  ·split at h
   ·cases h
   ·rename_i q hq;exact absurd h (hq i)
 have EK:rn w'.heap g2 S.aF:=⟨fun i o hi=>by
  by_cases h0:o=.cells []
  ·exact .inl h0
  refine .inr ?_;obtain⟨h1,h2⟩:=(hR.aF.obj i o hi).resolve_left h0;have bA:=Cr hR hi h0;obtain⟨q1,q2⟩:=hold _ bA;have le:Le ⟨w.heap,g,S.aF.length,[]⟩ ⟨w'.heap,g2,S.aF.length,[]⟩ :=
   ⟨hx.size,fun b o y ho hy=>by
    have hb:=Cb hy;show cellAt w'.heap b o=some y;rw[tE (hold b hb).1];exact hy,fun b hb=>Nat.le_of_eq (hold b hb).2.symm,Nat.le_refl _,fun _ _=>rfl⟩
  refine⟨by show(if g.γ i<w.heap.size then _ else _)=_;rw[if_pos bA];exact h1,?_⟩
  cases o with
  |map es =>
   obtain⟨h3,c,e,h4,h5,h6⟩:=h2;refine⟨q2.trans h3,c,e,q1.trans h4,h5,fun j v y hj hy=>?_⟩;obtain⟨h7,h8,h9,fO⟩:=h6 j v y hj hy;exact⟨h7,h8,h9.mono le fun d=>.inr (h7 d),fO.mono le fun d=>.inr (uO (h8 d))⟩
  |cells cs =>
   obtain⟨h3,c,e,h4,h5,h6⟩:=h2;refine⟨q2.trans h3,c,e,q1.trans h4,h5,fun j v y hj hy=>?_⟩;obtain⟨h7,h8,h9⟩:=h6 j v y hj hy;exact⟨h7,h8,h9.mono le fun d=>.inr (h8 d)⟩,Lw,Lx⟩
 have kM:CI ⟨w'.heap,g2,S.aF.length,[]⟩ w.heap.size (kL g) (.bool true) (.bool true):=by
  refine⟨[.bool true],rfl,rfl,fun p v y hv hy=>?_⟩
  match p with
  |0 =>
   simp[V.fT]at hv hy;subst hv;subst hy;exact⟨.plain (.bool _) (tH rfl),fun _=>rfl,fun f n es e=>by cases e⟩
  |p+1=>simp[V.fT]at hv
 obtain⟨gn,r1,_,r3,r4⟩:=hR.called (reg:=[]) y9 EK kM rfl (fun p f h=>by simp[look]at h)
 refine⟨gn,r1,r3,fun b p hb ho=>r4 b p hb ?_ rfl⟩;show(if b<w.heap.size then _ else _)=_
 rw[if_neg (by omega),ho]
def St.full(S:St)(id:Nat):Bool:=match look id S.aU with
 |some (_::_)=>true
 |_=>false
theorem T7{id:Nat}{cs:List V}(h:look id S.aU=some cs)(cg:cs≠[]):S.full id=true:=by
 unfold St.full;rw[h];cases cs with
 |nil=>exact absurd rfl cg
 |cons=>rfl
def rP(S:St)(g:Gh)(w:World)(ids:List Nat):Gh :=
 {noCell g with m:=fun b=>if (ids.any fun id=>S.full id&&g.κ id==b)=true then (match w.heap[b]? with|some (.cells c _ _)=>c.size|_=>0) else g.m b }
theorem M0(hR:R E g S a w)(ids:List Nat)(N:Nat):Le ⟨w.heap,g,N,[]⟩ ⟨w.heap,rP S g w ids,N,[]⟩ where
 size:=Nat.le_refl _
 cells:=fun _ _ _ _ h=>h
 m:=fun b _=>by
  show g.m b≤if _ then _ else g.m b
  split
  ·rename_i h
   simp only[List.any_eq_true,Bool.and_eq_true,beq_iff_eq]at h;obtain⟨id,_,h1,rfl⟩:=h;unfold St.full at h1;split at h1
   ·rename_i v cs ei
    rw[((hR.aU id _ ei).resolve_left (fun h=>by cases h.1)).2.2.1]
    exact Nat.zero_le _
   ·cases h1
  ·exact Nat.le_refl _
 eN:=Nat.le_refl _
 γ:=fun _ _=>rfl
theorem T8{ids:List Nat}{id:Nat}{c:Array Value}{e:TypeId}{fz:Nat×Nat}(hh:w.heap[g.κ id]?=some (.cells c e fz))(hc:ids.contains id=true)(hf:S.full id=true):(rP S g w ids).m (g.κ id)=c.size:=by
 show(if _ then _ else _)=_
 rw[if_pos,hh];simp only[List.any_eq_true,Bool.and_eq_true,beq_iff_eq];exact⟨id,by simpa using hc,hf,rfl⟩
theorem afB(hR:R E g S a w){ids:List Nat}{id s off n:Nat}{rs:Sh}{u:V}{x:Value}(h:S.yO ids rs id s off n=some u)(hl:aZ (S.cx g w) (.fh id s off n) x):aZ ⟨w.heap,rP S g w ids,0,[]⟩ u x:=by
 unfold St.yO at h;cases hc:ids.contains id with
 |false=>rw[hc]at h;cases h
 |true =>
  rw[hc]at h;simp only[cond_true]at h;split at h
  ·rename_i cs ei
   cases hle:((s==rs.length)&&Nat.blt 0 rs.length&&Nat.ble (off*rs.length+n*rs.length) cs.length) with
   |false=>rw[hle]at h;cases h
   |true =>
    rw[hle]at h;simp only[cond_true]at h;split at h
    ·rename_i es lL
     cases h;simp only[Bool.and_eq_true,beq_iff_eq]at hle;obtain⟨⟨rfl,gM⟩,hle⟩:=hle;have gM:0<rs.length:=by simpa [Nat.blt_eq] using gM
     have hle:=Nat.le_of_ble_eq_true hle;obtain⟨cap,eA,hx⟩:∃cap,n≤cap∧x=.slice (some ⟨g.κ id,off*rs.length,none⟩) n cap:=by
      cases hl with
      |plain h _=>cases h
      |fh _ _ _ _ cap h=>exact⟨cap,h,rfl⟩
     subst hx;rcases Nat.eq_zero_or_pos n with h0|h0
     ·subst h0
      simp only[chunks,kr,Option.some.injEq]at lL;subst lL;exact .plain (.empty _ _ _ _) (fun _ _ _ e=>by cases e)
     have hpn:=Nat.mul_pos h0 gM;have cg:cs≠[]:=by intro e;subst e;simp at hle;omega
     obtain⟨cA,gf,hm,c,e,hh,_,hj⟩:=(hR.aU id cs ei).resolve_left (fun h=>cg h.1);obtain⟨h1,h2⟩:=KV (X:=S.cx g w) (c:=c) (off:=off*rs.length) (fun j v hv=>(hj j v hv).2) (by omega) lL
     have wY:=T8 (ids:=ids) (S:=S) (g:=g) hh hc (T7 ei cg);have u7:cs.length≤c.size:=by
      rcases Nat.lt_or_ge c.size cs.length with h|h
      ·obtain⟨_,y,hy,_⟩:=hj c.size cs[c.size] (List.getElem?_eq_getElem h)
       simp at hy
      ·exact h
     have bA:g.κ id<w.heap.size:=by
      rcases Nat.lt_or_ge (g.κ id) w.heap.size with h|h
      ·exact h
      ·simp[Array.getElem?_eq_none h]at hh
     rw[←h1];refine .plain (AG (m:=(rP S g w ids).m) (h2.mono (M0 hR ids 0)) bA (by omega) (fun j y hj=>?_) ?_ _) (fun _ _ _ e=>by cases e)
     ·rw[kZ hh]
      rw[List.getElem?_take]at hj;split at hj
      ·rw[List.getElem?_drop]at hj;simpa using hj
      ·cases hj
     ·show _≤(rP S g w ids).m (g.κ id)
      rw[wY,h1];omega
    ·cases h
  ·cases h
theorem M1(hR:R E g S a w)(ids:List Nat):∀{args:List (Sh×Sh×bq)} {ops:List Operand} {vs:List V},(args.length=ops.length∧∀(i:Nat) rs sh x y,args[i]?=some (rs,sh,x)→ops[i]?=some y→bO y x=true)→kY S ids args=some vs →
  vs.length=ops.length∧∀(i:Nat) (v:V) (x:Value),vs[i]?=some v→(ops.map a.eval)[i]?=some x→aZ ⟨w.heap,rP S g w ids,0,[]⟩ v x
 |[],[],vs,_,h=>by simp[kY]at h;subst h;simp
 |[],_::_,_,h,_=>by simp at h
 |_::_,[],_,h,_=>by simp at h
 |(rs,sh,x)::args,y::ops,vs,bn,h=>by
  simp only[kY]at h;split at h
  ·rename_i u us h1 h2
   cases h;have pR:∀v,S.ev x=some v→aZ (S.cx g w) v (a.eval y):=fun v hv=>cQ hR (bn.2 0 rs sh x y (by simp) (by simp)) hv
   have hr:aZ ⟨w.heap,rP S g w ids,0,[]⟩ u (a.eval y):=by
    split at h1
    ·rename_i id s n w6
     unfold St.Aw at h1;cases hc:ids.contains id with
     |false=>rw[hc]at h1;cases h1
     |true =>
      rw[hc]at h1;simp only[cond_true]at h1;split at h1
      ·rename_i es jL
       cases h1;have hl:=pR _ w6;obtain⟨l7,n',he,hlen,sN⟩:=Hx hR hl jL;cases he;have hz:n=0→aZ ⟨w.heap,rP S g w ids,0,[]⟩ (.slice none rs.length es) (a.eval y):=fun h0=>by
        subst h0;obtain rfl:=List.length_eq_zero_iff.1 hlen;refine .plain ?_ (fun _ _ _ e=>by cases e)
        rcases pO hl with⟨cap,_,_,e⟩ | ⟨_,e | ⟨q,e⟩,_⟩
        ·rw[e];exact .empty _ _ _ _
        ·rw[e];exact .nil _ _
        ·rw[e];exact .empty _ _ _ _
       rcases Nat.eq_zero_or_pos n with h0|h0
       ·exact hz h0
       obtain⟨cap,eA,hx,c,e,hh,fQ,w8,cA,gf,_⟩:=sN.resolve_left (fun h=>by omega)
       have Ba:∃cs,look id S.aU=some cs:=by
        unfold St.sH at jL;simp only at jL;split at jL
        ·rename_i cs h;exact⟨cs,h⟩
        ·cases jL
       obtain⟨cs,ei⟩:=Ba;have cg:cs≠[]:=by
        intro e;subst e;unfold St.sH at jL;simp only[ei]at jL;have h2:0<rs.length:=by
         rcases Nat.eq_zero_or_pos rs.length with h|h
         ·have h2:Nat.blt 0 rs.length=false:=by rw[h];rfl
          rw[h2]at jL;simp at jL
         ·exact h
        have:=Nat.mul_pos h0 h2;cases hle:Nat.ble (n*rs.length) ([]:List V).length with
        |false=>rw[hle]at jL;simp at jL
        |true =>
         have h3:=Nat.le_of_ble_eq_true hle;simp at h3;omega
       have hm:=T8 (ids:=ids) (S:=S) (g:=g) hh hc (T7 ei cg);have bA:g.κ id<w.heap.size:=by
        rcases Nat.lt_or_ge (g.κ id) w.heap.size with h|h
        ·exact h
        ·simp[Array.getElem?_eq_none h]at hh
       rw[hx,← hlen];refine .plain (AG (m:=(rP S g w ids).m) (w8.mono (M0 hR ids 0)) bA (by omega) (fun j y hj=>?_) ?_ _) (fun _ _ _ e=>by cases e)
       ·show cellAt w.heap (g.κ id) _=_
        rw[kZ hh];rw[List.getElem?_take]at hj;split at hj
        ·simpa using hj
        ·cases hj
       ·show _≤(rP S g w ids).m (g.κ id)
        rw[hm,hlen,Nat.zero_add];exact fQ
      ·cases h1
    ·rename_i id s off n w6
     exact afB hR h1 (pR _ w6)
    ·rename_i v _ _ w6
     exact(RL h1 (pR _ w6) 0).mono (M0 hR ids 0) (fun d=>.inl ⟨rfl,rfl,fun k hk=>by simp[look]at hk⟩)
    ·cases h1
   obtain⟨e,hx⟩:=M1 hR ids (args:=args) (ops:=ops) ⟨by simpa using bn.1,fun i xc xg x' y' hi hj=>bn.2 (i+1) xc xg x' y' (by simpa using hi) (by simpa using hj)⟩ h2
   refine⟨by simp[e],fun i z zz hz rA=>?_⟩
   cases i with
   |zero=>simp at hz rA;subst hz;subst rA;exact hr
   |succ i=>exact hx i z zz (by simpa using hz) (by simpa using rA)
  ·cases h
theorem T9{id:Nat}:∀{pos:Nat} {vs us:List V} {o:Option (List V)},mK id pos vs=some (us,o)→∀v∈vs,v.j7=true
 |_,[],_,_,_,v,hv=>by cases hv
 |0,u::vs,us,o,h,v,hv=>by
  simp only[mK]at h;split at h
  ·rename_i t n es
   cases hc:(es.all (fun r=>r.length==n&&r.all V.sc)&&vs.all V.j7) with
   |false=>rw[hc]at h;cases h
   |true =>
    simp only[Bool.and_eq_true]at hc;rcases List.mem_cons.1 hv with rfl|hv
    ·exact hc.1
    ·exact List.all_eq_true.1 hc.2 v hv
  ·cases h
 |p+1,u::vs,us,o,h,v,hv=>by
  simp only[mK]at h;cases hs:u.j7 with
  |false=>rw[hs]at h;cases h
  |true =>
   rw[hs]at h;simp only[cond_true]at h;split at h
   ·rename_i h'
    rcases List.mem_cons.1 hv with rfl|hv
    ·exact hs
    ·exact T9 h' v hv
   ·cases h
theorem afC{X X':Cx}{v:V}{y:Value}(h:v.j7=true)(hh:X'.h=X.h)(hm:X'.g.m=X.g.m)(hr:aZ X (strip v) y):aZ X' (strip v) y:=by
 have sc:v.sc=true→aZ X' (strip v) y:=fun hs=>by
  rw[(Fs hs).2.2];exact IE hs hr X'
 cases v with
 |slice t n es =>
  have:aZ X (.slice none n es) y:=hr;cases this with
  |plain h _=>exact .plain (by rw[hh,hm];exact h) (fun _ _ _ e=>by cases e)
 |int|bool|str=>exact sc h
 |_=>simp[V.j7,V.sc]at h
theorem afD{X:Cx}{base q:Nat}{v:V}{y:Value}(h:v.j7=true)(hr:aZ X (strip v) y)(hf:Cy X base (fun _=>False) q v y)(X':Cx)(hh:X'.h=X.h)(hm:∀b,base≤b→X.g.m b≤X'.g.m b):aZ X' (strip v) y:=by
 have vg:Cy ⟨X.h,{ X.g with ow:=fun b=>if base≤b then X.g.ow b else .none },X.N,X.T⟩ base (fun _=>False) q v y:=fun f n es e=>(hf f n es e).imp (fun z=>z) fun⟨b,off,cap,c,e,h1,h2,h3,h4⟩ =>
  ⟨b,off,cap,c,e,h1,h2,by show(if base≤b then X.g.ow b else Ow.none)=_;rw[if_pos (h2.resolve_right fun h=>h)];exact h3,h4⟩
 have nL:aZ ⟨X.h,{ X.g with ow:=fun b=>if base≤b then X.g.ow b else .none },X.N,X.T⟩ (strip v) y:=afC (X:=X) h rfl rfl hr
 exact MY h nL vg X' hh fun b hb=>hm b (by
  have hb:(if base≤b then X.g.ow b else Ow.none)=.tok q:=hb
  split at hb
  ·assumption
  ·cases hb)
theorem LF{o:Oper}{f:Operand}{args:Array Operand}{ts:Array TypeId}{fo:bq}{as:List (Sh×Sh×bq)}{ids:List Nat}{id pos:Nat}{C:bw}(ho:o.op=.call ⟨.value f,args,ts⟩)(hf:bO f fo=true)
  (has:as.length=args.toList.length∧∀(i:Nat) rs sh x y,as[i]?=some (rs,sh,x)→args.toList[i]?=some y→bO y x=true)
  (hC:∀f args G r G',C f args G=some (r,G')→tL P f args G r G') (hn:S.eG id)
  (hR:R E g S a w) (hd:∀d,o.dst=some d→d<E.nt) (ah:VO.run C o.dst S (.own fo as ids id pos)=some S'):cb P E o S S' a w:=by
 simp only[VO.run]at ah;split at ah
 ·rename_i mQ vs qB ru
  split at ah
  ·rename_i r G' ka
   have uX:=hC _ _ _ _ _ ka;obtain⟨fn,qC,uY,pg⟩:=uX.fn;have e1:a.eval f=.func (.func mQ) #[] #[]:=by
    have hr:=cQ hR hf qB;generalize a.eval f=y at hr;cases hr with
    |plain h _=>cases h
    |fn _ _ xs hl hx =>
     have:xs = #[]:=by
      apply Array.eq_empty_of_size_eq_zero;simpa using hl.symm
     rw[this]
   obtain⟨hl,hx⟩:=M1 hR ids has ru;have gp:(execOp a.eval o).run P w=.ok (.enter mQ (args.map a.eval)) w:=by
    simp[execOp,ho,resolve,e1,Deferred.ofValue,invoke,callFunc,qC];simp at pg;cases hb:fn.body with
    |none=>simp[hb]at uY
    |some c=>simp[pg]
   intro K Q hK;unfold Oper.wp;rw[gp,Oper.upon_enter];have xF:=uX.run w (rP S g w ids) (args.toList.map a.eval) ⟨fun i o h=>by simp at h,fun i o h=>by simp at h,fun b i h=>absurd (Lu g b i h).2 (by omega)⟩ (by simp;simpa using hl) hx
   have wc:(args.toList.map a.eval).toArray=args.map a.eval:=by
    apply Array.ext';simp
   rw[wc]at xF;refine xF.mono fun e w' ⟨x,g',he,hext,hG,kM⟩=>?_;subst he;have ji:∀b,¬ kL (rP S g w ids) b:=fun b=>CD g b;have hold:∀b,b<w.heap.size→w'.heap[b]?=w.heap[b]?:=fun b hb=>(hext.my b hb (fun i hi=>absurd hi (by simp)) (ji b)).1
   let m0:Nat→Nat:=fun b=>if b<w.heap.size then g.m b else g'.m b
   have y9:Ext w (noCell g) 0 w' { g' with m:=m0 } G'.length :=
    ⟨hext.os,hext.tape,hext.output,hext.size,hext.eN,hext.γ,hext.γnew,fun b hb _ _=>⟨hold b hb,if_pos hb⟩,fun b hb hw=>absurd hw (CD g b),fun b p q hb h=>absurd (hext.ib b p q hb h) (ji b),hext.lv⟩
   have hv:∀v cs,j8 id pos r=some (v,cs)→∃us ys,MZ ⟨w'.heap,{ g' with m:=m0 },G'.length,[]⟩ w.heap.size pos id us ys cs∧∀X':Cx,(∀(k:Nat) (u:V) (y:Value),us[k]?=some u→ys[k]?=some y→aZ X' u y)→aZ X' v x:=fun v cs lh=>by
    obtain⟨ys,p1,p2,p3⟩:=kM;have C2:∀vs us,r.fT=vs→mK id pos vs=some (us,cs)→MZ ⟨w'.heap,{ g' with m:=m0 },G'.length,[]⟩ w.heap.size pos id us ys cs:=fun vs us ru ho=>by
     subst ru;have:=T6 (X:=⟨w'.heap,{ g' with m:=m0 },G'.length,[]⟩) (k0:=0) ho p2.symm (fun k v y hv hy=>by
      obtain⟨q1,_,q3⟩:=p3 k v y hv hy;rw[Nat.zero_add];have q4:Cy ⟨w'.heap,g',G'.length,[]⟩ w.heap.size (fun _=>False) k v y:=fun f n es e=>(q3 f n es e).imp (fun z=>z) fun⟨b,off,cap,c,e,h1,h2,h3⟩=>⟨b,off,cap,c,e,h1,.inl (h2.resolve_right (ji b)),h3⟩;have eb:∀b,w.heap.size≤b→m0 b=g'.m b:=fun b hb=>if_neg (by omega)
      refine⟨afD (T9 ho v (List.mem_of_getElem? hv)) q1 q4 _ rfl (fun b hb=>Nat.le_of_eq (eb b hb).symm),fun f n es e=>(q4 f n es e).imp (fun z=>z) fun⟨b,off,cap,c,e,h1,h2,h3,h4,h5⟩=>?_⟩;refine⟨b,off,cap,c,e,h1,h2,h3,?_,h5⟩;show m0 b=_;rw[eb b (h2.resolve_right (fun h=>h))];exact h4)
     rwa [Nat.zero_add]at this
    unfold j8 at lh;split at lh
    ·rename_i Cg
     split at lh
     ·rename_i us o' IF
      simp only[Option.some.injEq,Prod.mk.injEq]at lh;obtain⟨rfl,rfl⟩:=lh;have hr:=C2 _ us rfl IF;refine⟨us,ys,hr,fun X' h=>?_⟩;have hp:x=.tuple ys.toArray:=p1;rw[hp];have hlen:us.length=ys.length:=by cases o'<;>exact hr.1
      exact .tuple _ _ (by simpa using hlen) fun i v y hv hy=>h i v y hv (by simpa using hy)
     ·cases lh
    ·rename_i Ua
     split at lh
     ·rename_i u o' IF
      simp only[Option.some.injEq,Prod.mk.injEq]at lh;obtain⟨rfl,rfl⟩:=lh;have Ub:∀cs,r≠.agg cs:=fun cs e=>by
       subst e;cases pos<;>simp[mK,V.sc]at IF
      have hc:r.fT=[r]:=by
       cases r<;>first|rfl|(exact absurd rfl (Ua _))|(exact absurd rfl (Ub _))
      have hr:=C2 _ [u] hc IF;refine⟨[u],ys,hr,fun X' h=>?_⟩;have hp:ys=[x]:=by
       cases r<;>first|exact p1|(exact absurd rfl (Ua _))|(exact absurd rfl (Ub _))
      exact h 0 u x rfl (by rw[hp];rfl)
     ·cases lh
   split at ah
   ·rename_i v cs lh
    cases ah;obtain⟨us,ys,⟨_,b,Db,c,e,h1,h2,h3,h4,h5,h6⟩,qF⟩:=hv v (some cs) lh;obtain⟨gn,r1,r2,r3⟩:=hR.alone y9 (fun i=>if i=b then 0 else m0 i) (fun i hi=>by
     rw[if_neg (by omega)]
     exact if_pos hi)
    obtain⟨gk,k1,k2,k3,k4⟩:=r1.afA (cs:=cs) (cpn:=Db) hn (by rw[r2];exact if_pos rfl) (r3 b pos h1 h2) (Nat.le_trans hR.same.size h1) h3 (fun j u hu=>by
     obtain⟨q1,y,q2,q3⟩:=h5 j u hu;exact⟨(Fs q1).1,(Fs q1).2.1 _,y,q2,q3 _⟩) h4
    exact hK gk _ _ (k1.put hd (qF _ (h6 _ rfl (fun b' nf=>by show m0 b'≤gk.m b';rw[k4,r2];simp only[if_neg nf];exact Nat.le_refl _) k2 k3)))
   ·rename_i v lh
    cases ah;obtain⟨us,ys,⟨_,h1⟩,qF⟩:=hv v none lh;obtain⟨gn,r1,r2,_⟩:=hR.alone y9 m0 (fun i hi=>if_pos hi);exact hK gn _ _ (r1.put hd (qF _ (h1 _ rfl (fun b=>by show m0 b≤gn.m b;rw[r2];exact Nat.le_refl _))))
   ·cases ah
  ·cases ah
 ·cases ah
theorem M3:∀{as:List (Sh×bq)},kY S [] (as.map fun p=>([],p.1,p.2))=mw S as
 |[]=>rfl
 |(sh,x)::as=>by
  have p1:∀i s n,oy sh (.bQ i s n)=none:=fun i s n=>by simp only[oy];split<;>rfl
  have p2:∀i s o n,oy sh (.fh i s o n)=none:=fun i s o n=>by simp only[oy];split<;>rfl
  simp only[List.map_cons,kY,mw,M3 (as:=as)];rcases S.ev x with _|v
  ·rfl
  ·cases v<;>first|rfl|(simp only[p1,p2,St.Aw,St.yO];rfl)
theorem adG{o:Oper}{f:Operand}{args:Array Operand}{ts:Array TypeId}{fo:bq}{as:List (Sh×bq)}{id:Nat}{C:bw}(ho:o.op=.call ⟨.value f,args,ts⟩)(hf:bO f fo=true)
  (has:as.length=args.toList.length∧∀(i:Nat) sh x y,as[i]?=some (sh,x)→args.toList[i]?=some y→bO y x=true)
  (hC:∀f args G r G',C f args G=some (r,G')→tL P f args G r G') (hn:S.eG id) (afE:o.dst.isSome=true)
  (hR:R E g S a w) (hd:∀d,o.dst=some d→d<E.nt) (ah:VO.run C o.dst S (.qm fo as id)=some S'):cb P E o S S' a w:=by
 obtain⟨dd,Dd⟩:=Option.isSome_iff_exists.1 afE;simp only[VO.run]at ah;split at ah
 ·rename_i mQ vs qB ru
  split at ah
  ·rename_i r G' ka
   have tS:∀S0:St,(∀s v,s≠dd→look s S.env=some v→look s S0.env=some v)→(∀i cs,look i S.aU=some cs→look i S0.aU=some cs)→S0.bg=S.bg→S0.aF=S.aF →
     nj ({ S with env:=S.env.filter fun p => !(p.1==dd) }:St) S0:=fun S0 h1 h2 h3 h4=>by
    refine⟨fun s v e=>?_,h2,fun f k e=>by rw[h3];exact e,h4.symm⟩
    simp only[nV]at e;split at e
    ·cases e
    ·rename_i cg;exact h1 s v cg e
   have hnf:({ S with env:=S.env.filter fun p => !(p.1==dd) }:St).eG id:=L5.eG hn;have fin:∀{g1:Gh} {a1:Act} {w1:World} {G1:List aP} {x:Value} {u:V},R E g1 { S with env:=S.env.filter fun p => !(p.1==dd),aF:=G1 } a1 w1→a1.tmps[dd]?=some x→aZ (({ S with aF:=G1 }:St).cx g1 w1) u x →
     R E g1 (({ S with aF:=G1 }:St).put (some dd) u) a1 w1:=fun {g1 a1 w1 G1 x u} r hx hr=>by
    refine⟨fun s v hs=>?_,r.aU,r.bg,r.aF,r.defers,r.jh,r.same⟩;rw[Cc,dA]at hs;split at hs
    ·rename_i e;subst e;cases hs;exact⟨x,hx,hr⟩
    ·rename_i cg
     refine r.env s v ?_;show look s (S.env.filter fun p => !(p.1==dd))=some v;rw[nV,if_neg (fun e=>cg e.symm)];exact hs
   split at ah
   ·rename_i l7 n len cs lh
    cases hc:(l7==id&&Nat.blt 0 cs.length&&Nat.blt 0 len&&cs.all V.sc) with
    |false=>simp[hc]at ah
    |true =>
    simp only[hc,cond_true]at ah;simp only[Bool.and_eq_true,beq_iff_eq,List.all_eq_true]at hc;obtain⟨⟨⟨mO,gM⟩,hlen⟩,A9⟩:=hc;have gM:0<cs.length:=by simpa [Nat.blt_eq] using gM
    have hlen:0<len:=by simpa [Nat.blt_eq] using hlen
    cases ah;subst mO;have M4:=LF (id:=l7) (pos:=0) (S':={ S with aU:=(l7,cs)::S.aU }.put o.dst (.bQ l7 n len)) (as:=as.map fun p=>([],p.1,p.2)) (ids:=[]) ho hf ⟨by simpa using has.1,fun i rs sh x y h1 h2=>by simp at h1;obtain⟨a,b,h1,_,rfl,rfl⟩:=h1;exact has.2 i a b y h1 h2⟩ hC hn hR hd (by simp only[VO.run,qB,M3,ru,ka,lh])
    intro K Q hK;refine M4 K Q fun g1 a1 w1 eT=>?_;rw[Dd,Cc]at eT;obtain⟨x,hx,hr⟩:=eT.env dd (.bQ l7 n len) (by show look dd ((dd,V.bQ l7 n len)::S.env)=_;rw[dA,if_pos rfl])
    have fw:=eT.aU l7 cs (by show look l7 ((l7,cs)::S.aU)=_;rw[dA,if_pos rfl])
    have CQ:R E g1 { S with env:=S.env.filter fun p => !(p.1==dd) } a1 w1:=eT.less (tS _ (fun s v cg h=>by show look s ((dd,V.bQ l7 n len)::S.env)=_;rw[dA,if_neg (fun e=>cg e.symm)];exact h)
     (fun i dQ h=>by show look i ((l7,cs)::S.aU)=_;rw[dA,if_neg (fun e=>by subst e;rw[hn.obj]at h;cases h)];exact h) rfl rfl)
    rcases fw with⟨rfl,uS⟩ | ⟨cA,gf,hm,c,e,hh,fC,hj⟩
    ·simp at gM
    ·obtain⟨cap,eA,u7,hxe⟩:∃cap,len≤cap∧cap*n=g1.cp l7∧x=.slice (some ⟨g1.κ l7,0,none⟩) len cap:=by
      rcases pO hr with h | ⟨h1,h2,h3⟩
      ·exact h
      ·omega
     obtain⟨g2,r1,r2,_⟩:=CQ.L6 (n:=n) hnf cA gf hm hh hxe eA (us:=cs) (fun j v hv=>by
      obtain⟨_,y,hy,pR⟩:=hj j v hv;have hs:=A9 v (List.mem_of_getElem? hv);refine⟨by cases v<;>simp_all[V.sc,V.plain],y,hy,?_⟩
      cases v<;>simp[V.sc]at hs<;>(cases pR with|plain h _=>exact h))
     exact hK g2 _ _ (by rw[Dd];exact fin r1 hx r2)
   ·rename_i n lh
    cases ah;have M4:=LF (id:=id) (pos:=0) (S':=S.put o.dst (.dR n)) (as:=as.map fun p=>([],p.1,p.2)) (ids:=[]) ho hf ⟨by simpa using has.1,fun i rs sh x y h1 h2=>by simp at h1;obtain⟨a,b,h1,_,rfl,rfl⟩:=h1;exact has.2 i a b y h1 h2⟩ hC hn hR hd (by simp only[VO.run,qB,M3,ru,ka,lh])
    intro K Q hK;refine M4 K Q fun g1 a1 w1 eT=>?_;rw[Dd,Cc]at eT;obtain⟨g2,r1⟩:=H5 (n:=n) eT (s:=dd) (v:=.dR n) (by show look dd ((dd,V.dR n)::S.env)=_;rw[dA,if_pos rfl]) (fun x hx=>sJ hx)
    refine hK g2 _ _ ?_;rw[Dd];refine⟨fun s v hs=>?_,r1.aU,r1.bg,r1.aF,r1.defers,r1.jh,r1.same⟩;rw[Cc,dA]at hs;refine r1.env s v ?_;show look s ((dd,V.dh S.aF.length n 0)::(dd,V.dR n)::S.env)=some v;rw[dA];split at hs
    ·rename_i e;rw[if_pos e];exact hs
    ·rename_i e;rw[if_neg e,dA,if_neg e];exact hs
   ·cases ah
  ·cases ah
 ·cases ah
theorem adH{o:Oper}{f:Operand}{args:Array Operand}{ts:Array TypeId}{fo:bq}{as:List (Sh×Sh×bq)}{ids:List Nat}{C:bw}(ho:o.op=.call ⟨.value f,args,ts⟩)(hf:bO f fo=true)
  (has:as.length=args.toList.length∧∀(i:Nat) rs sh x y,as[i]?=some (rs,sh,x)→args.toList[i]?=some y→bO y x=true)
  (hC:∀f args G r G',C f args G=some (r,G')→tL P f args G r G')
  (hR:R E g S a w) (hd:∀d,o.dst=some d→d<E.nt) (ah:VO.run C o.dst S (.ql fo as ids)=some S'):cb P E o S S' a w:=by
 simp only[VO.run]at ah;split at ah
 ·rename_i mQ vs qB ru
  split at ah
  ·rename_i r G' ka
   cases Bb:r.oS with
   |false=>rw[Bb]at ah;cases ah
   |true =>
   rw[Bb]at ah;simp only[cond_true,Option.some.injEq]at ah;subst ah;have uX:=hC _ _ _ _ _ ka;obtain⟨fn,qC,uY,pg⟩:=uX.fn;have e1:a.eval f=.func (.func mQ) #[] #[]:=by
    have hr:=cQ hR hf qB;generalize a.eval f=y at hr;cases hr with
    |plain h _=>cases h
    |fn _ _ xs hl hx =>
     have:xs = #[]:=by
      apply Array.eq_empty_of_size_eq_zero;simpa using hl.symm
     rw[this]
   obtain⟨hl,hx⟩:=M1 hR ids has ru;have gp:(execOp a.eval o).run P w=.ok (.enter mQ (args.map a.eval)) w:=by
    simp[execOp,ho,resolve,e1,Deferred.ofValue,invoke,callFunc,qC];simp at pg;cases hb:fn.body with
    |none=>simp[hb]at uY
    |some c=>simp[pg]
   intro K Q hK;unfold Oper.wp;rw[gp,Oper.upon_enter];have xF:=uX.run w (rP S g w ids) (args.toList.map a.eval) ⟨fun i o h=>by simp at h,fun i o h=>by simp at h,fun b i h=>absurd (Lu g b i h).2 (by omega)⟩ (by simp;simpa using hl) hx
   have wc:(args.toList.map a.eval).toArray=args.map a.eval:=by
    apply Array.ext';simp
   rw[wc]at xF;refine xF.mono fun e w' ⟨x,g',he,hext,hG,kM⟩=>?_;subst he;have ji:∀b,¬ kL (rP S g w ids) b:=fun b=>CD g b;have hold:∀b,b<w.heap.size→w'.heap[b]?=w.heap[b]?:=fun b hb=>(hext.my b hb (fun i hi=>absurd hi (by simp)) (ji b)).1
   let m':Nat→Nat:=fun b=>if b<w.heap.size then g.m b else g'.m b
   have y9:Ext w (noCell g) 0 w' { g' with m:=m' } G'.length :=
    ⟨hext.os,hext.tape,hext.output,hext.size,hext.eN,hext.γ,hext.γnew,fun b hb _ _=>⟨hold b hb,if_pos hb⟩,fun b hb hw=>absurd hw (CD g b),fun b p q hb h=>absurd (hext.ib b p q hb h) (ji b),hext.lv⟩
   obtain⟨gn,r1,_,_⟩:=hR.alone y9 m' (fun b hb=>if_pos hb);refine hK gn _ _ (r1.put hd ?_);obtain⟨ys,p1,p2,p3⟩:=kM;have sc:∀(k:Nat) (v:V) (y:Value),r.fT[k]?=some v→v.sc=true→ys[k]?=some y→aZ (S.cx gn w') v y:=fun k v y hv hs hy=>IE hs (p3 k v y hv hy).1 _;cases r with
   |tuple vs =>
    simp only[V.oS,List.all_eq_true]at Bb;have hp:x=.tuple ys.toArray:=p1;rw[hp];exact .tuple _ _ (by have:=p2;simp[V.fT]at this;simpa using this.symm) fun i v y hv hy=>sc i v y hv (Bb v (List.mem_of_getElem? hv)) (by simpa using hy)
   |agg vs =>
    simp only[V.oS,List.all_eq_true]at Bb;have hp:x=.agg ys.toArray:=p1;rw[hp];exact .agg _ _ (by have:=p2;simp[V.fT]at this;simpa using this.symm) fun i v y hv hy=>sc i v y hv (Bb v (List.mem_of_getElem? hv)) (by simpa using hy)
   |_ =>
    have hp:ys=[x]:=p1;exact sc 0 _ x rfl Bb (by rw[hp];rfl)
  ·cases ah
 ·cases ah
end
end Go.Vm
