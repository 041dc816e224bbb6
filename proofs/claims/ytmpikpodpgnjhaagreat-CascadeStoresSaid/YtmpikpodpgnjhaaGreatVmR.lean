/- The value machine: results that become the caller's own. -/
import Derived.Test.YtmpikpodpgnjhaaGreatVmQ
import Derived.Test.YtmpikpodpgnjhaaGreatVmV
namespace Go.Vm
set_option linter.all false
section
variable {P:Program} {E:Entry} {g g':Gh} {S S':St} {a:Act} {w w':World}
theorem Kg{X:Cx}{v:V}{y:Value}(h:v.sc=true)(hr:aY X (strip v) y)(X':Cx):aY X' v y:=by
 cases v<;>simp[V.sc]at h
 ·rw[kX hr];exact .plain (.int _ _) (sk rfl)
 ·rw[wY hr];exact .plain (.bool _) (sk rfl)
 ·obtain⟨z,rfl,e⟩:=aY.xv hr
  subst e;exact .plain (.str _) (sk rfl)
theorem FU{v:V}(h:v.sc=true):v.cz=true∧(∀d,v.ca d=false)∧strip v=v:=by
 cases v<;>simp[V.sc]at h<;>exact⟨rfl,fun _=>rfl,rfl⟩
theorem QM{X:Cx}{base q:Nat}{v:V}{y:Value}(h:v.lI=true)(hr:aY X (strip v) y)(hf:IJ X base (fun _=>False) q v y)(X':Cx)(hh:X'.h=X.h)(hm:∀b,X.g.ow b=.tok q→X.g.m b≤X'.g.m b):aY X' (strip v) y:=by
 have sc:v.sc=true→aY X' (strip v) y:=fun hs=>by
  rw[(FU hs).2.2];exact Kg hs hr X'
 cases v with
 |slice t n es =>
  cases t with
  |none=>simp[V.lI,V.sc]at h
  |some t =>
   simp only[V.lI,List.all_eq_true,Bool.and_eq_true,beq_iff_eq]at h;have hv:eS X.h X.g.m (.slice none n es) y:=by
    have:aY X (.slice none n es) y:=hr;cases this with|plain h _=>exact h
   have go:eS X'.h X'.g.m (.slice none n es) y:=by
    cases hv with
    |nil=>exact .nil _ _
    |empty _ _ a cap=>exact .empty _ _ a cap
    |slice _ _ _ b off cap ys hb eu ia hc Cc hp yo =>
     by_cases he:es=[]
     ·subst he
      exact .empty _ _ _ cap
     rcases hf t n es rfl with⟨e,_⟩ | ⟨b',off',nI,c,e,h1,_,h3,_,_,_,_,_⟩
     ·exact absurd e he
     ·injection h1 with h1 _ _
      injection h1 with h1;injection h1 with h4 h5 _;subst h4;refine .slice none n es b off cap ys (by rw[hh];exact hb) eu ia (fun i row j v hi hj=>by rw[hh];exact hc i row j v hi hj) (fun i row j v hi hj=>?_) hp (Nat.le_trans yo (hm b h3))
      have hs:=(h row (List.mem_of_getElem? hi)).2 v (List.mem_of_getElem? hj);have h6:=Cc i row j v hi hj;generalize ys i j=z at h6 ⊢;cases v<;>simp[V.sc]at hs
      ·cases h6;exact .int _ _
      ·cases h6;exact .bool _
      ·cases h6;exact .str _
   exact .plain go (fun _ _ _ e=>by cases e)
 |_=>exact sc (by simpa [V.lI] using h)
def Kh(X:Cx)(base p id:Nat)(us:List V)(ys:List Value):Option (List V)→Prop
 |none=>us.length=ys.length∧∀(X':Cx),X'.h=X.h→(∀b,X.g.m b≤X'.g.m b)→∀(k:Nat) (u:V) (y:Value),us[k]?=some u→ys[k]?=some y→aY X' u y
 |some cs=>us.length=ys.length∧∃b AZ c e,base≤b∧X.g.ow b=.tok p∧X.h[b]?=some (.cells c e (0,0))∧AZ≤c.size ∧
   (∀(j:Nat) (u:V),cs[j]?=some u→u.sc=true∧∃y,c[j]?=some y∧∀X':Cx,aY X' u y) ∧
   ∀X':Cx,X'.h=X.h→(∀b',b'≠b→X.g.m b'≤X'.g.m b')→X'.g.κ id=b→X'.g.cp id=AZ→∀(k:Nat) (u:V) (y:Value),us[k]?=some u→ys[k]?=some y→aY X' u y
theorem QN{X:Cx}{base id:Nat}:∀{pos k0:Nat} {vs us:List V} {ys:List Value} {o:Option (List V)},mz id pos vs=some (us,o)→vs.length=ys.length →
  (∀(k:Nat) (v:V) (y:Value),vs[k]?=some v→ys[k]?=some y→aY X (strip v) y∧IJ X base (fun _=>False) (k0+k) v y)→Kh X base (k0+pos) id us ys o
 |_,_,[],_,_,_,h,_,_=>by cases ‹Nat› <;> simp[mz]at h
 |0,_,_::_,_,[],_,_,hl,_=>by simp at hl
 |0,k0,v::vs,us,y::ys,o,h,hl,hr=>by
  simp only[mz]at h;split at h
  ·rename_i t n es
   cases hc:(es.all (fun r=>r.length==n&&r.all V.sc)&&vs.all V.lI) with
   |false=>simp[hc]at h
   |true =>
    simp only[hc,cond_true]at h;simp only[Bool.and_eq_true,List.all_eq_true,beq_iff_eq]at hc;obtain⟨h0,hf⟩:=hr 0 _ y rfl rfl;have sG:∀(X':Cx),X'.h=X.h→(∀b,X.g.ow b≠.tok k0→X.g.m b≤X'.g.m b)→∀(k:Nat) (u:V) (z:Value),(vs.map strip)[k]?=some u→ys[k]?=some z→aY X' u z:=fun X' hh hm k u z hu hz=>by
     rw[List.getElem?_map]at hu;cases hk:vs[k]? with
     |none=>simp[hk]at hu
     |some u0 =>
      simp[hk]at hu;subst hu;obtain⟨q1,q2⟩:=hr (k+1) u0 z (by simpa using hk) (by simpa using hz)
      exact QM (hc.2 u0 (List.mem_of_getElem? hk)) q1 q2 X' hh (fun b hb=>hm b (fun e=>by rw[hb]at e;injection e with e;omega))
    cases he:es.isEmpty with
    |true =>
     simp only[he,cond_true,Option.some.injEq,Prod.mk.injEq]at h;obtain⟨rfl,rfl⟩:=h;have he:es=[]:=by simpa using he
     subst he;refine⟨by simpa using hl,fun X' hh hm k u z hu hz=>?_⟩
     cases k with
     |zero =>
      simp at hu hz;subst hu;subst hz;rcases hf t n [] rfl with⟨_,e⟩ | ⟨b,off,cap,c,e,_,_,_,_,_,_,_,h9⟩
      ·exact .dH e
      ·simp at h9
     |succ k=>exact sG X' hh (fun b _=>hm b) k u z (by simpa using hu) (by simpa using hz)
    |false =>
     simp only[he,cond_false,Option.some.injEq,Prod.mk.injEq]at h;obtain⟨rfl,rfl⟩:=h;have ch:es≠[]:=by intro e;subst e;simp at he
     rcases hf t n es rfl with⟨e,_⟩ | ⟨b,off,cap,c,e,h1,h2,h3,_,h5,h6,h7,_⟩
     ·exact absurd e ch
     ·subst h7
      have hv:eS X.h X.g.m (.slice none n es) y:=by
       have:aY X (.slice none n es) y:=h0;cases this with|plain h _=>exact h
      rcases EO hv with⟨e,_⟩ | ⟨e,_⟩ | ⟨b',off',nI,l,q1,q2,q3,q4⟩
      ·exact absurd e ch
      ·exact absurd e ch
      ·rw[q1]at h1
       injection h1 with r1 r2 r3;injection r1 with r1;injection r1 with r4 r5 r6;subst r4;subst r5;subst r3;obtain⟨f1,f2⟩:=xj q4;refine⟨by simpa using hl,b',nI*n,c,e,h2.resolve_right (fun h=>h),h3,h5,by omega,fun j u hu=>?_,fun X' hh hm k1 k2 k u z hu hz=>?_⟩
       ·obtain⟨_,z,we,yu⟩:=f2 j u hu
        have y4:u.sc=true:=by
         obtain⟨r,oM,oa⟩:=List.mem_flatten.1 (List.mem_of_getElem? hu);exact(hc.1 r oM).2 u oa
        have im:=q3 j z we;rw[kM h5,Nat.zero_add]at im;refine⟨y4,z,im,fun X'=>Kg (X:=X) y4 ?_ X'⟩;rw[(FU y4).2.2];exact .plain yu (sk (by cases u<;>simp_all[V.sc,V.plain]))
       ·cases k with
        |zero =>
         simp at hu hz;subst hu;subst hz;rw[q1,← k1];exact .bO id n es.length nI q2 k2.symm
        |succ k=>exact sG X' hh (fun b2 xw=>hm b2 (fun e=>xw (by rw[e];exact h3))) k u z (by simpa using hu) (by simpa using hz)
  ·cases h
 |pos+1,k0,v::vs,us,[],o,h,hl,_=>by simp at hl
 |pos+1,k0,v::vs,us,y::ys,o,h,hl,hr=>by
  simp only[mz]at h;cases hs:v.lI with
  |false=>simp[hs]at h
  |true =>
   simp only[hs,cond_true]at h;split at h
   ·rename_i lX o' h'
    simp only[Option.some.injEq,Prod.mk.injEq]at h;obtain⟨rfl,rfl⟩:=h;have ih:=QN (k0:=k0+1) h' (by simpa using hl) (fun k v z hv hz=>by
     have:=hr (k+1) v z (by simpa using hv) (by simpa using hz)
     rw[show k0+(k+1)=k0+1+k from by omega]at this
     exact this)
    obtain⟨uL,h01⟩:=hr 0 v y rfl rfl;have h0:∀X':Cx,X'.h=X.h→(∀b,X.g.ow b=.tok (k0+0)→X.g.m b≤X'.g.m b)→aY X' (strip v) y:=fun X' hh hm=>QM hs uL h01 X' hh hm;rw[show k0+1+pos=k0+(pos+1) from by omega]at ih
    cases o' with
    |none =>
     obtain⟨i1,i2⟩:=ih;refine⟨by simp[i1],fun X' hh hm k u z hu hz=>?_⟩
     cases k with
     |zero=>simp at hu hz;subst hu;subst hz;exact h0 X' hh (fun b _=>hm b)
     |succ k=>exact i2 X' hh hm k u z (by simpa using hu) (by simpa using hz)
    |some cs =>
     obtain⟨i1,b,AZ,c,e,i2,i3,i4,i5,i6,i7⟩:=ih;refine⟨by simp[i1],b,AZ,c,e,i2,i3,i4,i5,i6,fun X' hh hm k1 k2 k u z hu hz=>?_⟩
     cases k with
     |zero=>simp at hu hz;subst hu;subst hz;exact h0 X' hh (fun b2 xw=>hm b2 (fun e=>by rw[e,i3]at xw;injection xw with e2;omega))
     |succ k=>exact i7 X' hh hm k1 k2 k u z (by simpa using hu) (by simpa using hz)
   ·cases h
theorem R.abt(hR:R E g S a w){id b:Nat}(hn:S.ez id)(hm:g.m b=0)(cn:g.ow b=.none)(fU:E.w0.heap.size≤b){c:Array Value}{e:TypeId}(hh:w.heap[b]?=some (.cells c e (0,0)))
  {cs:List V} (eW:∀(j:Nat) (v:V),cs[j]?=some v→v.cz=true∧v.ca id=false∧∃y,c[j]?=some y∧aY (S.cx g w) v y) {cpn:Nat} (hcpn:cpn≤c.size) :
  ∃g',R E g' { S with aV:=(id,cs)::S.aV } a w∧g'.κ id=b∧g'.cp id=cpn∧g'.m=g.m:=by
 let g':Gh:={ g with κ:=cQ g.κ id b,cp:=cQ g.cp id cpn,ow:=cQ g.ow b (.obj id) }
 have t:Touch E g S w g' S.a7 S.ay.length w b (some id) none :=
  {os:=rfl,tape:=rfl,output:=rfl,size:=Nat.le_refl _,heap:=fun _ _ _=>rfl,m:=fun _ _=>rfl,ow:=fun _ hb=>gd _ _ hb,
   κ:=fun i hi=>gd _ _ (fun e=>hi (by rw[e])),cp:=fun i hi=>gd _ _ (fun e=>hi (by rw[e])),τ:=fun _ _=>rfl,T:=fun _ _=>rfl,γ:=fun _ _=>rfl,eG:=Nat.le_refl _,
   γnew:=fun i a b=>absurd a (by omega),fresh:=.inl fU,gN:=fun p q _ e=>by(have e:cQ g.ow b (.obj id) b=.cell p q:=e);rw[dC]at e;exact nomatch e
   lv:=fun i e=>by(have e:cQ g.ow b (.obj id) b=.ay i:=e);rw[dC]at e;exact nomatch e
   jQ:=fun _ _ _ h=>h,nZ:=fun _=>Nat.le_refl _ }
 have kn:∀i,il (S.cx g w) ⟨w.heap,g',S.ay.length,S.a7⟩ i∨i=id:=fun i=>by
  by_cases hi:i=id
  ·exact .inr hi
  ·exact .inl (t.keeps hR (fun e=>hi (by cases e;rfl)) (fun e=>by cases e) (fun _ e=>by rw[cn]at e;cases e))
 refine⟨g',R.mU t hR rfl rfl (fun i=>(kn i).imp (fun z=>z) fun e=>by rw[e];exact hn) (fun s v hs=>.inl hs) (fun i dR ho=>?_) (fun f k b hf hb=>.inl ⟨(fun e=>by cases e),fun _ e=>by rw[cn]at e;cases e⟩)
  (fun i o ho=>.inl ⟨ho,fun _=>⟨fun e=>(by rw[cn]at e;cases e),fun _ e=>(by rw[cn]at e;cases e)⟩⟩),dC _ _ _,dC _ _ _,rfl⟩
 rw[dF]at ho;by_cases hi:id=i
 ·subst hi
  rw[if_pos rfl]at ho;cases ho;refine .inr ⟨?_,?_,?_,c,e,?_,(by show cQ g.cp _ _ _≤_;rw[dC];exact hcpn),fun j v hj=>?_⟩
  ·show cQ g.ow _ _ (cQ g.κ _ _ _)=_;rw[dC,dC]
  ·show _≤cQ g.κ _ _ _;rw[dC];exact fU
  ·show g.m (cQ g.κ _ _ _)=_;rw[dC];exact hm
  ·show w.heap[cQ g.κ _ _ _]?=_;rw[dC];exact hh
  ·obtain⟨q1,q2,y,q3,q4⟩:=eW j v hj
   exact⟨q1,y,q3,q4.mono t.le fun i=>(kn i).imp (fun z=>z) fun e=>by rw[e];exact q2⟩
 ·rw[if_neg hi]at ho
  exact .inl ⟨ho,fun e=>hi (by cases e;rfl),fun _ e=>by rw[cn]at e;cases e⟩
theorem R.alone(hR:R E g S a w){N:Nat}(hx:Ext w (noCell g) 0 w' g' N)(m':Nat→Nat)(sU:∀b,b<w.heap.size→m' b=g.m b) :
  ∃gn,R E gn S a w'∧gn.m=m'∧∀b p,w.heap.size≤b→g'.ow b=.tok p→gn.ow b=.none:=by
 let g2:Gh:={ g' with m:=m',γ:=g.γ,ow:=fun b=>if b<w.heap.size then g.ow b else match g'.ow b with | .ay _=>.none|q=>q }
 have hold:∀b,b<w.heap.size→w'.heap[b]?=w.heap[b]?∧m' b=g.m b:=fun b hb=>⟨(hx.kW b hb (fun i hi=>absurd hi (by simp)) (yL g b)).1,sU b hb⟩
 have Cj:Ext w g S.ay.length w' g2 S.ay.length:=⟨hx.os,hx.tape,hx.output,hx.size,Nat.le_refl _,fun _ _=>rfl,fun i a b=>absurd a (by omega),fun b hb _ _=>hold b hb,
  fun b hb _=>⟨fun o y _ hy=>by rw[sf (hold b hb).1];exact hy,Nat.le_of_eq (hold b hb).2.symm⟩,fun b p q hb h=>⟨p,q,by(have h:(if b<w.heap.size then _ else _)=Ow.cell p q:=h);rw[if_pos hb]at h;exact h⟩,
  fun b i h hb=>by(have h:(if b<w.heap.size then _ else _)=Ow.ay i:=h);rw[if_pos hb]at h;exact⟨h,(hR.ay.z b i h).2⟩⟩
 have IV:∀i o,S.ay[i]?=some o→yp w'.heap g2 (g2.γ i) o:=fun i o hi=>by
  have h3:=hR.ay.own i o hi;cases o with
  |map es=>trivial
  |cells cs =>
   intro j n es y hj hy;have hy:cellAt w'.heap (g.γ i) j=some y:=hy;rw[sf (hold _ (Al hR hi (Oq hj))).1]at hy;rcases h3 j n es y hj hy with h | ⟨q,cap,c',e',q1,q2,q3,q4,q5,q6⟩
   ·exact .inl h
   ·have oK:q<w.heap.size:=by
     rcases Nat.lt_or_ge q w.heap.size with h|h
     ·exact h
     ·simp[Array.getElem?_eq_none h]at q4
    exact .inr ⟨q,cap,c',e',q1,by show(if q<w.heap.size then _ else _)=_;rw[if_pos oK];exact q2,(hold q oK).2.trans q3,(hold q oK).1.trans q4,q5,q6⟩
 have IW:∀b i,g2.ow b=.ay i→g2.m b=0∧i<S.ay.length:=fun b i h=>by
  have h:(if b<w.heap.size then g.ow b else match g'.ow b with | .ay _=>.none|q=>q)=Ow.ay i:=h
  split at h
  ·rename_i hb
   obtain⟨z1,z2⟩:=hR.ay.z b i h;exact⟨(hold b hb).2.trans z1,z2⟩
  ·split at h
   ·cases h
   ·rename_i q hq;exact absurd h (hq i)
 have Ck:qc w'.heap g2 S.ay:=⟨fun i o hi=>by
  by_cases h0:o=.cells []
  ·exact .inl h0
  refine .inr ?_;obtain⟨h1,h2⟩:=(hR.ay.obj i o hi).resolve_left h0;have br:=Al hR hi h0;obtain⟨q1,q2⟩:=hold _ br;have le:Le ⟨w.heap,g,S.ay.length,[]⟩ ⟨w'.heap,g2,S.ay.length,[]⟩ :=
   ⟨hx.size,fun b o y ho hy=>by
    have hb:=zZ hy;show cellAt w'.heap b o=some y;rw[sf (hold b hb).1];exact hy,fun b hb=>Nat.le_of_eq (hold b hb).2.symm,Nat.le_refl _,fun _ _=>rfl⟩
  refine⟨by show(if g.γ i<w.heap.size then _ else _)=_;rw[if_pos br];exact h1,?_⟩
  cases o with
  |map es =>
   obtain⟨h3,c,e,h4,h5,h6⟩:=h2;refine⟨q2.trans h3,c,e,q1.trans h4,h5,fun j v y hj hy=>?_⟩;obtain⟨h7,h8,h9,fx⟩:=h6 j v y hj hy;exact⟨h7,h8,h9.mono le fun d=>.inr (h7 d),fx.mono le fun d=>.inr (tC (h8 d))⟩
  |cells cs =>
   obtain⟨h3,c,e,h4,h5,h6⟩:=h2;refine⟨q2.trans h3,c,e,q1.trans h4,h5,fun j v y hj hy=>?_⟩;obtain⟨h7,h8,h9⟩:=h6 j v y hj hy;exact⟨h7,h8,h9.mono le fun d=>.inr (h8 d)⟩,IV,IW⟩
 have jX:uS ⟨w'.heap,g2,S.ay.length,[]⟩ w.heap.size (ku g) (.bool true) (.bool true):=by
  refine⟨[.bool true],rfl,rfl,fun p v y hv hy=>?_⟩
  match p with
  |0 =>
   simp[V.fj]at hv hy;subst hv;subst hy;exact⟨.plain (.bool _) (sk rfl),fun _=>rfl,fun f n es e=>by cases e⟩
  |p+1=>simp[V.fj]at hv
 obtain⟨gn,r1,_,r3,r4⟩:=hR.called (reg:=[]) Cj Ck jX rfl (fun p f h=>by simp[look]at h)
 refine⟨gn,r1,r3,fun b p hb ho=>r4 b p hb ?_ rfl⟩;show(if b<w.heap.size then _ else _)=_
 rw[if_neg (by omega),ho]
theorem I2{o:Oper}{f:Operand}{args:Array Operand}{ts:Array TypeId}{fo:bj}{as:List (Sh×bj)}{id pos:Nat}{C:bm}(ho:o.op=.call ⟨.value f,args,ts⟩)(hf:bJ f fo=true)
  (has:as.length=args.toList.length∧∀(i:Nat) sh x y,as[i]?=some (sh,x)→args.toList[i]?=some y→bJ y x=true)
  (hC:∀f args G r G',C f args G=some (r,G')→sx P f args G r G') (hn:S.ez id)
  (hR:R E g S a w) (hd:∀d,o.dst=some d→d<E.nt) (ah:VO.run C o.dst S (.own fo as id pos)=some S'):b0 P E o S S' a w:=by
 simp only[VO.run]at ah;split at ah
 ·rename_i l8 vs uT qd
  split at ah
  ·rename_i r G' jt
   have tJ:=hC _ _ _ _ _ jt;obtain⟨fn,pz,tK,og⟩:=tJ.fn;have e1:a.eval f=.func (.func l8) #[] #[]:=by
    have hr:=cL hR hf uT;generalize a.eval f=y at hr;cases hr with
    |plain h _=>cases h
    |fn _ _ xs hl hx =>
     have:xs = #[]:=by
      apply Array.eq_empty_of_size_eq_zero;simpa using hl.symm
     rw[this]
   obtain⟨hl,hx⟩:=IT hR 0 has qd;have fW:(execOp a.eval o).run P w=.ok (.enter l8 (args.map a.eval)) w:=by
    simp[execOp,ho,resolve,e1,Deferred.ofValue,invoke,callFunc,pz];simp at og;cases hb:fn.body with
    |none=>simp[hb]at tK
    |some c=>simp[og]
   intro K Q hK;unfold Oper.wp;rw[fW,Oper.upon_enter];have wh:=tJ.run w (noCell g) (args.toList.map a.eval) ⟨fun i o h=>by simp at h,fun i o h=>by simp at h,IU g⟩ (by simp;simpa using hl) (fun i v x hv jT=>aY.mono (X:=⟨w.heap,g,0,[]⟩) (X':=⟨w.heap,noCell g,0,[]⟩) ⟨Nat.le_refl _,fun _ _ _ _ h=>h,fun _ _=>Nat.le_refl _,Nat.le_refl _,fun _ _=>rfl⟩ (hx i v x hv jT) (fun d=>.inl ⟨rfl,rfl,fun k hk=>by simp[look]at hk⟩))
   have uU:(args.toList.map a.eval).toArray=args.map a.eval:=by
    apply Array.ext';simp
   rw[uU]at wh;refine wh.mono fun e w' ⟨x,g',he,hext,hG,jX⟩=>?_;subst he;have hv:∀v cs,iD id pos r=some (v,cs)→∃us ys,Kh ⟨w'.heap,g',G'.length,[]⟩ w.heap.size pos id us ys cs∧∀X':Cx,(∀(k:Nat) (u:V) (y:Value),us[k]?=some u→ys[k]?=some y→aY X' u y)→aY X' v x:=fun v cs ky=>by
    obtain⟨ys,p1,p2,p3⟩:=jX;have AT:∀vs us,r.fj=vs→mz id pos vs=some (us,cs)→Kh ⟨w'.heap,g',G'.length,[]⟩ w.heap.size pos id us ys cs:=fun vs us qd ho=>by
     subst qd;have:=QN (k0:=0) ho p2.symm (fun k v y hv hy=>by
      obtain⟨q1,_,q3⟩:=p3 k v y hv hy;rw[Nat.zero_add];exact⟨q1,fun f n es e=>(q3 f n es e).imp (fun z=>z) fun⟨b,off,cap,c,e,h1,h2,h3⟩=>⟨b,off,cap,c,e,h1,.inl (h2.resolve_right (yL g b)),h3⟩⟩)
     rwa [Nat.zero_add]at this
    unfold iD at ky;split at ky
    ·rename_i Ab
     split at ky
     ·rename_i us o' FV
      simp only[Option.some.injEq,Prod.mk.injEq]at ky;obtain⟨rfl,rfl⟩:=ky;have hr:=AT _ us rfl FV;refine⟨us,ys,hr,fun X' h=>?_⟩;have hp:x=.tuple ys.toArray:=p1;rw[hp];have hlen:us.length=ys.length:=by cases o'<;>exact hr.1
      exact .tuple _ _ (by simpa using hlen) fun i v y hv hy=>h i v y hv (by simpa using hy)
     ·cases ky
    ·rename_i A1
     split at ky
     ·rename_i u o' FV
      simp only[Option.some.injEq,Prod.mk.injEq]at ky;obtain⟨rfl,rfl⟩:=ky;have QO:∀cs,r≠.agg cs:=fun cs e=>by
       subst e;cases pos<;>simp[mz,V.sc]at FV
      have hc:r.fj=[r]:=by
       cases r<;>first|rfl|(exact absurd rfl (A1 _))|(exact absurd rfl (QO _))
      have hr:=AT _ [u] hc FV;refine⟨[u],ys,hr,fun X' h=>?_⟩;have hp:ys=[x]:=by
       cases r<;>first|exact p1|(exact absurd rfl (A1 _))|(exact absurd rfl (QO _))
      exact h 0 u x rfl (by rw[hp];rfl)
     ·cases ky
   split at ah
   ·rename_i v cs ky
    cases ah;obtain⟨us,ys,⟨_,b,AZ,c,e,h1,h2,h3,h4,h5,h6⟩,pC⟩:=hv v (some cs) ky;obtain⟨gn,r1,r2,r3⟩:=hR.alone hext (fun i=>if i=b then 0 else g'.m i) (fun i hi=>by
     rw[if_neg (by omega)]
     exact(hext.kW i hi (fun i hi=>absurd hi (by simp)) (yL g i)).2)
    obtain⟨gk,k1,k2,k3,k4⟩:=r1.abt (cs:=cs) (cpn:=AZ) hn (by rw[r2];exact if_pos rfl) (r3 b pos h1 h2) (Nat.le_trans hR.same.size h1) h3 (fun j u hu=>by
     obtain⟨q1,y,q2,q3⟩:=h5 j u hu;exact⟨(FU q1).1,(FU q1).2.1 _,y,q2,q3 _⟩) h4
    exact hK gk _ _ (k1.put hd (pC _ (h6 _ rfl (fun b' mE=>by show g'.m b'≤gk.m b';rw[k4,r2];simp only[if_neg mE];exact Nat.le_refl _) k2 k3)))
   ·rename_i v ky
    cases ah;obtain⟨us,ys,⟨_,h1⟩,pC⟩:=hv v none ky;obtain⟨gn,r1,r2,_⟩:=hR.alone hext g'.m (fun i hi=>(hext.kW i hi (fun i hi=>absurd hi (by simp)) (yL g i)).2)
    exact hK gn _ _ (r1.put hd (pC _ (h1 _ rfl (fun b=>by show g'.m b≤gn.m b;rw[r2];exact Nat.le_refl _))))
   ·cases ah
  ·cases ah
 ·cases ah
theorem Zx{o:Oper}{f:Operand}{args:Array Operand}{ts:Array TypeId}{fo:bj}{as:List (Sh×bj)}{id:Nat}{C:bm}(ho:o.op=.call ⟨.value f,args,ts⟩)(hf:bJ f fo=true)
  (has:as.length=args.toList.length∧∀(i:Nat) sh x y,as[i]?=some (sh,x)→args.toList[i]?=some y→bJ y x=true)
  (hC:∀f args G r G',C f args G=some (r,G')→sx P f args G r G') (hn:S.ez id) (abu:o.dst.isSome=true)
  (hR:R E g S a w) (hd:∀d,o.dst=some d→d<E.nt) (ah:VO.run C o.dst S (.pe fo as id)=some S'):b0 P E o S S' a w:=by
 obtain⟨dd,A2⟩:=Option.isSome_iff_exists.1 abu;simp only[VO.run]at ah;split at ah
 ·rename_i l8 vs uT qd
  split at ah
  ·rename_i r G' jt
   have vW:∀S0:St,(∀s v,s≠dd→look s S.env=some v→look s S0.env=some v)→(∀i cs,look i S.aV=some cs→look i S0.aV=some cs)→S0.a7=S.a7→S0.ay=S.ay →
     oQ ({ S with env:=S.env.filter fun p => !(p.1==dd) }:St) S0:=fun S0 h1 h2 h3 h4=>by
    refine⟨fun s v e=>?_,h2,fun f k e=>by rw[h3];exact e,h4.symm⟩
    simp only[oo]at e;split at e
    ·cases e
    ·rename_i ch;exact h1 s v ch e
   have hnf:({ S with env:=S.env.filter fun p => !(p.1==dd) }:St).ez id:=Js.ez hn;have fin:∀{g1:Gh} {a1:Act} {w1:World} {G1:List aP} {x:Value} {u:V},R E g1 { S with env:=S.env.filter fun p => !(p.1==dd),ay:=G1 } a1 w1→a1.tmps[dd]?=some x→aY (({ S with ay:=G1 }:St).cx g1 w1) u x →
     R E g1 (({ S with ay:=G1 }:St).put (some dd) u) a1 w1:=fun {g1 a1 w1 G1 x u} r hx hr=>by
    refine⟨fun s v hs=>?_,r.aV,r.a7,r.ay,r.defers,r.jb,r.same⟩;rw[z6,dF]at hs;split at hs
    ·rename_i e;subst e;cases hs;exact⟨x,hx,hr⟩
    ·rename_i ch
     refine r.env s v ?_;show look s (S.env.filter fun p => !(p.1==dd))=some v;rw[oo,if_neg (fun e=>ch e.symm)];exact hs
   split at ah
   ·rename_i lK n len cs ky
    cases hc:(lK==id&&Nat.blt 0 cs.length&&Nat.blt 0 len&&cs.all V.sc) with
    |false=>simp[hc]at ah
    |true =>
    simp only[hc,cond_true]at ah;simp only[Bool.and_eq_true,beq_iff_eq,List.all_eq_true]at hc;obtain⟨⟨⟨l7,gG⟩,hlen⟩,y4⟩:=hc;have gG:0<cs.length:=by simpa [Nat.blt_eq] using gG
    have hlen:0<len:=by simpa [Nat.blt_eq] using hlen
    cases ah;subst l7;have Ki:=I2 (id:=lK) (pos:=0) (S':={ S with aV:=(lK,cs)::S.aV }.put o.dst (.bO lK n len)) ho hf has hC hn hR hd (by simp only[VO.run,uT,qd,jt,ky])
    intro K Q hK;refine Ki K Q fun g1 a1 w1 eQ=>?_;rw[A2,z6]at eQ;obtain⟨x,hx,hr⟩:=eQ.env dd (.bO lK n len) (by show look dd ((dd,V.bO lK n len)::S.env)=_;rw[dF,if_pos rfl])
    have e9:=eQ.aV lK cs (by show look lK ((lK,cs)::S.aV)=_;rw[dF,if_pos rfl])
    have AK:R E g1 { S with env:=S.env.filter fun p => !(p.1==dd) } a1 w1:=eQ.less (vW _ (fun s v ch h=>by show look s ((dd,V.bO lK n len)::S.env)=_;rw[dF,if_neg (fun e=>ch e.symm)];exact h)
     (fun i dR h=>by show look i ((lK,cs)::S.aV)=_;rw[dF,if_neg (fun e=>by subst e;rw[hn.obj]at h;cases h)];exact h) rfl rfl)
    rcases e9 with⟨rfl,uL⟩ | ⟨cn,fU,hm,c,e,hh,eT,hj⟩
    ·simp at gG
    ·obtain⟨cap,eu,uY,hxe⟩:∃cap,len≤cap∧cap*n=g1.cp lK∧x=.slice (some ⟨g1.κ lK,0,none⟩) len cap:=by
      rcases pg hr with h | ⟨h1,h2,h3⟩
      ·exact h
      ·omega
     obtain⟨g2,r1,r2⟩:=AK.Po (n:=n) hnf cn fU hm hh hxe eu (us:=cs) (fun j v hv=>by
      obtain⟨_,y,hy,pn⟩:=hj j v hv;have hs:=y4 v (List.mem_of_getElem? hv);refine⟨by cases v<;>simp_all[V.sc,V.plain],y,hy,?_⟩
      cases v<;>simp[V.sc]at hs<;>(cases pn with|plain h _=>exact h))
     exact hK g2 _ _ (by rw[A2];exact fin r1 hx r2)
   ·rename_i n ky
    cases ah;have Ki:=I2 (id:=id) (pos:=0) (S':=S.put o.dst (.dH n)) ho hf has hC hn hR hd (by simp only[VO.run,uT,qd,jt,ky])
    intro K Q hK;refine Ki K Q fun g1 a1 w1 eQ=>?_;rw[A2,z6]at eQ;obtain⟨g2,r1⟩:=Fs (n:=n) eQ (s:=dd) (v:=.dH n) (by show look dd ((dd,V.dH n)::S.env)=_;rw[dF,if_pos rfl]) (fun x hx=>qQ hx)
    refine hK g2 _ _ ?_;rw[A2];refine⟨fun s v hs=>?_,r1.aV,r1.a7,r1.ay,r1.defers,r1.jb,r1.same⟩;rw[z6,dF]at hs;refine r1.env s v ?_;show look s ((dd,V.df S.ay.length n 0)::(dd,V.dH n)::S.env)=some v;rw[dF];split at hs
    ·rename_i e;rw[if_pos e];exact hs
    ·rename_i e;rw[if_neg e,dF,if_neg e];exact hs
   ·cases ah
  ·cases ah
 ·cases ah
def wi(S:St)(g:Gh)(w:World)(ids:List Nat):Gh :=
 {noCell g with m:=fun b=>if (ids.any fun id=>(look id S.aV).isSome&&g.cp id != 0&&g.κ id==b)=true then (match w.heap[b]? with|some (.cells c _ _)=>c.size|_=>0) else g.m b }
theorem QQ(hR:R E g S a w)(ids:List Nat)(N:Nat):Le ⟨w.heap,g,N,[]⟩ ⟨w.heap,wi S g w ids,N,[]⟩ where
 size:=Nat.le_refl _
 cells:=fun _ _ _ _ h=>h
 m:=fun b _=>by
  show g.m b≤if _ then _ else g.m b
  split
  ·rename_i h
   simp only[List.any_eq_true,Bool.and_eq_true,beq_iff_eq,bne_iff_ne,ne_eq]at h;obtain⟨id,_,⟨h1,h2⟩,rfl⟩:=h;obtain⟨cs,eW⟩:=Option.isSome_iff_exists.1 h1;rw[((hR.aV id cs eW).resolve_left (fun h=>h2 h.2)).2.2.1];exact Nat.zero_le _
  ·exact Nat.le_refl _
 eG:=Nat.le_refl _
 γ:=fun _ _=>rfl
theorem QR(hR:R E g S a w)(ids:List Nat):∀{args:List (Sh×Sh×bj)} {ops:List Operand} {vs:List V},(args.length=ops.length∧∀(i:Nat) rs sh x y,args[i]?=some (rs,sh,x)→ops[i]?=some y→bJ y x=true)→nV S ids args=some vs →
  vs.length=ops.length∧∀(i:Nat) (v:V) (x:Value),vs[i]?=some v→(ops.map a.eval)[i]?=some x→aY ⟨w.heap,wi S g w ids,0,[]⟩ v x
 |[],[],vs,_,h=>by simp[nV]at h;subst h;simp
 |[],_::_,_,h,_=>by simp at h
 |_::_,[],_,h,_=>by simp at h
 |(rs,sh,x)::args,y::ops,vs,bg,h=>by
  simp only[nV]at h;split at h
  ·rename_i u us h1 h2
   cases h;have pn:∀v,S.ev x=some v→aY (S.cx g w) v (a.eval y):=fun v hv=>cL hR (bg.2 0 rs sh x y (by simp) (by simp)) hv
   have hr:aY ⟨w.heap,wi S g w ids,0,[]⟩ u (a.eval y):=by
    split at h1
    ·rename_i id s n yw
     unfold St.zX at h1;cases hc:ids.contains id with
     |false=>rw[hc]at h1;cases h1
     |true =>
      rw[hc]at h1;simp only[cond_true]at h1;split at h1
      ·rename_i es ko
       cases h1;have hl:=pn _ yw;obtain⟨lK,n',he,hlen,tO⟩:=Il hR hl ko;cases he;have hz:n=0→aY ⟨w.heap,wi S g w ids,0,[]⟩ (.slice none rs.length es) (a.eval y):=fun h0=>by
        subst h0;obtain rfl:=List.length_eq_zero_iff.1 hlen;refine .plain ?_ (fun _ _ _ e=>by cases e)
        rcases pg hl with⟨cap,_,_,e⟩ | ⟨_,e | ⟨q,e⟩,_⟩
        ·rw[e];exact .empty _ _ _ _
        ·rw[e];exact .nil _ _
        ·rw[e];exact .empty _ _ _ _
       rcases Nat.eq_zero_or_pos n with h0|h0
       ·exact hz h0
       obtain⟨cap,eu,hx,c,e,hh,fy,yy,cn,fU,_⟩:=tO.resolve_left (fun h=>by omega)
       have CX:∃cs,look id S.aV=some cs:=by
        unfold St.sa at ko;simp only at ko;split at ko
        ·rename_i cs h;exact⟨cs,h⟩
        ·cases ko
       obtain⟨cs,eW⟩:=CX;have eT:g.cp id≠0:=by
        obtain⟨nI,h1,h2,_⟩:=(pg hl).resolve_right (fun h=>by omega)
        have h2:nI*rs.length=g.cp id:=h2;have gG:0<rs.length:=by
         unfold St.sa at ko;simp only[eW]at ko;rcases Nat.eq_zero_or_pos rs.length with h|h
         ·have h2:Nat.blt 0 rs.length=false:=by rw[h];rfl
          rw[h2]at ko;simp at ko
         ·exact h
        have:=Nat.mul_pos (show 0<nI by omega) gG
        omega
       have hm:(wi S g w ids).m (g.κ id)=c.size:=by
        show(if _ then _ else _)=_
        rw[if_pos,hh];simp only[List.any_eq_true,Bool.and_eq_true,beq_iff_eq,bne_iff_ne,ne_eq];exact⟨id,by simpa using hc,⟨by rw[eW];rfl,eT⟩,rfl⟩
       have br:g.κ id<w.heap.size:=by
        rcases Nat.lt_or_ge (g.κ id) w.heap.size with h|h
        ·exact h
        ·simp[Array.getElem?_eq_none h]at hh
       rw[hx,← hlen];refine .plain (Ac (m:=(wi S g w ids).m) (yy.mono (QQ hR ids 0)) br (by omega) (fun j y hj=>?_) ?_ _) (fun _ _ _ e=>by cases e)
       ·show cellAt w.heap (g.κ id) _=_
        rw[kM hh];rw[List.getElem?_take]at hj;split at hj
        ·simpa using hj
        ·cases hj
       ·show _≤(wi S g w ids).m (g.κ id)
        rw[hm,hlen,Nat.zero_add];exact fy
      ·cases h1
    ·rename_i v _ yw
     exact(OF h1 (pn _ yw) 0).mono (QQ hR ids 0) (fun d=>.inl ⟨rfl,rfl,fun k hk=>by simp[look]at hk⟩)
    ·cases h1
   obtain⟨e,hx⟩:=QR hR ids (args:=args) (ops:=ops) ⟨by simpa using bg.1,fun i vC vI x' y' hi hj=>bg.2 (i+1) vC vI x' y' (by simpa using hi) (by simpa using hj)⟩ h2
   refine⟨by simp[e],fun i z zz hz qi=>?_⟩
   cases i with
   |zero=>simp at hz qi;subst hz;subst qi;exact hr
   |succ i=>exact hx i z zz (by simpa using hz) (by simpa using qi)
  ·cases h
theorem Zy{o:Oper}{f:Operand}{args:Array Operand}{ts:Array TypeId}{fo:bj}{as:List (Sh×Sh×bj)}{ids:List Nat}{C:bm}(ho:o.op=.call ⟨.value f,args,ts⟩)(hf:bJ f fo=true)
  (has:as.length=args.toList.length∧∀(i:Nat) rs sh x y,as[i]?=some (rs,sh,x)→args.toList[i]?=some y→bJ y x=true)
  (hC:∀f args G r G',C f args G=some (r,G')→sx P f args G r G')
  (hR:R E g S a w) (hd:∀d,o.dst=some d→d<E.nt) (ah:VO.run C o.dst S (.pd fo as ids)=some S'):b0 P E o S S' a w:=by
 simp only[VO.run]at ah;split at ah
 ·rename_i l8 vs uT qd
  split at ah
  ·rename_i r G' jt
   cases y5:r.nW with
   |false=>rw[y5]at ah;cases ah
   |true =>
   rw[y5]at ah;simp only[cond_true,Option.some.injEq]at ah;subst ah;have tJ:=hC _ _ _ _ _ jt;obtain⟨fn,pz,tK,og⟩:=tJ.fn;have e1:a.eval f=.func (.func l8) #[] #[]:=by
    have hr:=cL hR hf uT;generalize a.eval f=y at hr;cases hr with
    |plain h _=>cases h
    |fn _ _ xs hl hx =>
     have:xs = #[]:=by
      apply Array.eq_empty_of_size_eq_zero;simpa using hl.symm
     rw[this]
   obtain⟨hl,hx⟩:=QR hR ids has qd;have fW:(execOp a.eval o).run P w=.ok (.enter l8 (args.map a.eval)) w:=by
    simp[execOp,ho,resolve,e1,Deferred.ofValue,invoke,callFunc,pz];simp at og;cases hb:fn.body with
    |none=>simp[hb]at tK
    |some c=>simp[og]
   intro K Q hK;unfold Oper.wp;rw[fW,Oper.upon_enter];have wh:=tJ.run w (wi S g w ids) (args.toList.map a.eval) ⟨fun i o h=>by simp at h,fun i o h=>by simp at h,fun b i h=>absurd (IU g b i h).2 (by omega)⟩ (by simp;simpa using hl) hx
   have uU:(args.toList.map a.eval).toArray=args.map a.eval:=by
    apply Array.ext';simp
   rw[uU]at wh;refine wh.mono fun e w' ⟨x,g',he,hext,hG,jX⟩=>?_;subst he;have gO:∀b,¬ ku (wi S g w ids) b:=fun b=>yL g b;have hold:∀b,b<w.heap.size→w'.heap[b]?=w.heap[b]?:=fun b hb=>(hext.kW b hb (fun i hi=>absurd hi (by simp)) (gO b)).1
   let m':Nat→Nat:=fun b=>if b<w.heap.size then g.m b else g'.m b
   have Cj:Ext w (noCell g) 0 w' { g' with m:=m' } G'.length :=
    ⟨hext.os,hext.tape,hext.output,hext.size,hext.eG,hext.γ,hext.γnew,fun b hb _ _=>⟨hold b hb,if_pos hb⟩,fun b hb hw=>absurd hw (yL g b),fun b p q hb h=>absurd (hext.gN b p q hb h) (gO b),hext.lv⟩
   obtain⟨gn,r1,_,_⟩:=hR.alone Cj m' (fun b hb=>if_pos hb);refine hK gn _ _ (r1.put hd ?_);obtain⟨ys,p1,p2,p3⟩:=jX;have sc:∀(k:Nat) (v:V) (y:Value),r.fj[k]?=some v→v.sc=true→ys[k]?=some y→aY (S.cx gn w') v y:=fun k v y hv hs hy=>Kg hs (p3 k v y hv hy).1 _;cases r with
   |tuple vs =>
    simp only[V.nW,List.all_eq_true]at y5;have hp:x=.tuple ys.toArray:=p1;rw[hp];exact .tuple _ _ (by have:=p2;simp[V.fj]at this;simpa using this.symm) fun i v y hv hy=>sc i v y hv (y5 v (List.mem_of_getElem? hv)) (by simpa using hy)
   |agg vs =>
    simp only[V.nW,List.all_eq_true]at y5;have hp:x=.agg ys.toArray:=p1;rw[hp];exact .agg _ _ (by have:=p2;simp[V.fj]at this;simpa using this.symm) fun i v y hv hy=>sc i v y hv (y5 v (List.mem_of_getElem? hv)) (by simpa using hy)
   |_ =>
    have hp:ys=[x]:=p1;exact sc 0 _ x rfl y5 (by rw[hp];rfl)
  ·cases ah
 ·cases ah
end
end Go.Vm
