/- The value machine: results that become the caller's own. -/
import Derived.Test.YtmpikpodpgnjhaaGreatVmQ
import Derived.Test.YtmpikpodpgnjhaaGreatVmV
namespace Go.Vm
set_option linter.all false
section
variable {P:Program} {E:Entry} {g g':Gh} {S S':St} {a:Act} {w w':World}
theorem Kq{X:Cx}{v:V}{y:Value}(h:v.sc=true)(hr:bj X (strip v) y)(X':Cx):bj X' v y:=by
 cases v<;>simp[V.sc]at h
 ·rw[lA hr];exact .plain (.int _ _) (rY rfl)
 ·rw[wF hr];exact .plain (.bool _) (rY rfl)
 ·obtain⟨z,rfl,e⟩:=bj.xc hr
  subst e;exact .plain (.str _) (rY rfl)
theorem FW{v:V}(h:v.sc=true):v.cM=true∧(∀d,v.cu d=false)∧strip v=v:=by
 cases v<;>simp[V.sc]at h<;>exact⟨rfl,fun _=>rfl,rfl⟩
theorem QS{X:Cx}{base q:Nat}{v:V}{y:Value}(h:v.lT=true)(hr:bj X (strip v) y)(hf:IS X base (fun _=>False) q v y)(X':Cx)(hh:X'.h=X.h)(hm:∀b,X.g.ow b=.tok q→X.g.m b≤X'.g.m b):bj X' (strip v) y:=by
 have sc:v.sc=true→bj X' (strip v) y:=fun hs=>by
  rw[(FW hs).2.2];exact Kq hs hr X'
 cases v with
 |slice t n es =>
  cases t with
  |none=>simp[V.lT,V.sc]at h
  |some t =>
   simp only[V.lT,List.all_eq_true,Bool.and_eq_true,beq_iff_eq]at h;have hv:fp X.h X.g.m (.slice none n es) y:=by
    have:bj X (.slice none n es) y:=hr;cases this with|plain h _=>exact h
   have go:fp X'.h X'.g.m (.slice none n es) y:=by
    cases hv with
    |nil=>exact .nil _ _
    |empty _ _ a cap=>exact .empty _ _ a cap
    |slice _ _ _ b off cap ys hb eP iI hc Cq hp xJ =>
     by_cases he:es=[]
     ·subst he
      exact .empty _ _ _ cap
     rcases hf t n es rfl with⟨e,_⟩ | ⟨b',off',nZ,c,e,h1,_,h3,_,_,_,_,_⟩
     ·exact absurd e he
     ·injection h1 with h1 _ _
      injection h1 with h1;injection h1 with h4 h5 _;subst h4;refine .slice none n es b off cap ys (by rw[hh];exact hb) eP iI (fun i row j v hi hj=>by rw[hh];exact hc i row j v hi hj) (fun i row j v hi hj=>?_) hp (Nat.le_trans xJ (hm b h3))
      have hs:=(h row (List.mem_of_getElem? hi)).2 v (List.mem_of_getElem? hj);have h6:=Cq i row j v hi hj;generalize ys i j=z at h6 ⊢;cases v<;>simp[V.sc]at hs
      ·cases h6;exact .int _ _
      ·cases h6;exact .bool _
      ·cases h6;exact .str _
   exact .plain go (fun _ _ _ e=>by cases e)
 |_=>exact sc (by simpa [V.lT] using h)
def Kr(X:Cx)(base p id:Nat)(us:List V)(ys:List Value):Option (List V)→Prop
 |none=>us.length=ys.length∧∀(X':Cx),X'.h=X.h→(∀b,X.g.m b≤X'.g.m b)→∀(k:Nat) (u:V) (y:Value),us[k]?=some u→ys[k]?=some y→bj X' u y
 |some cs=>us.length=ys.length∧∃b AY c e,base≤b∧X.g.ow b=.tok p∧X.h[b]?=some (.cells c e (0,0))∧AY≤c.size ∧
   (∀(j:Nat) (u:V),cs[j]?=some u→u.sc=true∧∃y,c[j]?=some y∧∀X':Cx,bj X' u y) ∧
   ∀X':Cx,X'.h=X.h→(∀b',b'≠b→X.g.m b'≤X'.g.m b')→X'.g.κ id=b→X'.g.cp id=AY→∀(k:Nat) (u:V) (y:Value),us[k]?=some u→ys[k]?=some y→bj X' u y
theorem QT{X:Cx}{base id:Nat}:∀{pos k0:Nat} {vs us:List V} {ys:List Value} {o:Option (List V)},nT id pos vs=some (us,o)→vs.length=ys.length →
  (∀(k:Nat) (v:V) (y:Value),vs[k]?=some v→ys[k]?=some y→bj X (strip v) y∧IS X base (fun _=>False) (k0+k) v y)→Kr X base (k0+pos) id us ys o
 |_,_,[],_,_,_,h,_,_=>by cases ‹Nat› <;> simp[nT]at h
 |0,_,_::_,_,[],_,_,hl,_=>by simp at hl
 |0,k0,v::vs,us,y::ys,o,h,hl,hr=>by
  simp only[nT]at h;split at h
  ·rename_i t n es
   cases hc:(es.all (fun r=>r.length==n&&r.all V.sc)&&vs.all V.lT) with
   |false=>simp[hc]at h
   |true =>
    simp only[hc,cond_true]at h;simp only[Bool.and_eq_true,List.all_eq_true,beq_iff_eq]at hc;obtain⟨h0,hf⟩:=hr 0 _ y rfl rfl;have sf:∀(X':Cx),X'.h=X.h→(∀b,X.g.ow b≠.tok k0→X.g.m b≤X'.g.m b)→∀(k:Nat) (u:V) (z:Value),(vs.map strip)[k]?=some u→ys[k]?=some z→bj X' u z:=fun X' hh hm k u z hu hz=>by
     rw[List.getElem?_map]at hu;cases hk:vs[k]? with
     |none=>simp[hk]at hu
     |some u0 =>
      simp[hk]at hu;subst hu;obtain⟨q1,q2⟩:=hr (k+1) u0 z (by simpa using hk) (by simpa using hz)
      exact QS (hc.2 u0 (List.mem_of_getElem? hk)) q1 q2 X' hh (fun b hb=>hm b (fun e=>by rw[hb]at e;injection e with e;omega))
    cases he:es.isEmpty with
    |true =>
     simp only[he,cond_true,Option.some.injEq,Prod.mk.injEq]at h;obtain⟨rfl,rfl⟩:=h;have he:es=[]:=by simpa using he
     subst he;refine⟨by simpa using hl,fun X' hh hm k u z hu hz=>?_⟩
     cases k with
     |zero =>
      simp at hu hz;subst hu;subst hz;rcases hf t n [] rfl with⟨_,e⟩ | ⟨b,off,cap,c,e,_,_,_,_,_,_,_,h9⟩
      ·exact .dW e
      ·simp at h9
     |succ k=>exact sf X' hh (fun b _=>hm b) k u z (by simpa using hu) (by simpa using hz)
    |false =>
     simp only[he,cond_false,Option.some.injEq,Prod.mk.injEq]at h;obtain⟨rfl,rfl⟩:=h;have cF:es≠[]:=by intro e;subst e;simp at he
     rcases hf t n es rfl with⟨e,_⟩ | ⟨b,off,cap,c,e,h1,h2,h3,_,h5,h6,h7,_⟩
     ·exact absurd e cF
     ·subst h7
      have hv:fp X.h X.g.m (.slice none n es) y:=by
       have:bj X (.slice none n es) y:=h0;cases this with|plain h _=>exact h
      rcases ER hv with⟨e,_⟩ | ⟨e,_⟩ | ⟨b',off',nZ,l,q1,q2,q3,q4⟩
      ·exact absurd e cF
      ·exact absurd e cF
      ·rw[q1]at h1
       injection h1 with r1 r2 r3;injection r1 with r1;injection r1 with r4 r5 r6;subst r4;subst r5;subst r3;obtain⟨f1,f2⟩:=wX q4;refine⟨by simpa using hl,b',nZ*n,c,e,h2.resolve_right (fun h=>h),h3,h5,by omega,fun j u hu=>?_,fun X' hh hm k1 k2 k u z hu hz=>?_⟩
       ·obtain⟨_,z,vC,xO⟩:=f2 j u hu
        have yF:u.sc=true:=by
         obtain⟨r,rA,oF⟩:=List.mem_flatten.1 (List.mem_of_getElem? hu);exact(hc.1 r rA).2 u oF
        have iQ:=q3 j z vC;rw[lg h5,Nat.zero_add]at iQ;refine⟨yF,z,iQ,fun X'=>Kq (X:=X) yF ?_ X'⟩;rw[(FW yF).2.2];exact .plain xO (rY (by cases u<;>simp_all[V.sc,V.plain]))
       ·cases k with
        |zero =>
         simp at hu hz;subst hu;subst hz;rw[q1,← k1];exact .cb id n es.length nZ q2 k2.symm
        |succ k=>exact sf X' hh (fun b2 Dc=>hm b2 (fun e=>Dc (by rw[e];exact h3))) k u z (by simpa using hu) (by simpa using hz)
  ·cases h
 |pos+1,k0,v::vs,us,[],o,h,hl,_=>by simp at hl
 |pos+1,k0,v::vs,us,y::ys,o,h,hl,hr=>by
  simp only[nT]at h;cases hs:v.lT with
  |false=>simp[hs]at h
  |true =>
   simp only[hs,cond_true]at h;split at h
   ·rename_i ml o' h'
    simp only[Option.some.injEq,Prod.mk.injEq]at h;obtain⟨rfl,rfl⟩:=h;have ih:=QT (k0:=k0+1) h' (by simpa using hl) (fun k v z hv hz=>by
     have:=hr (k+1) v z (by simpa using hv) (by simpa using hz)
     rw[show k0+(k+1)=k0+1+k from by omega]at this
     exact this)
    obtain⟨um,ZL⟩:=hr 0 v y rfl rfl;have h0:∀X':Cx,X'.h=X.h→(∀b,X.g.ow b=.tok (k0+0)→X.g.m b≤X'.g.m b)→bj X' (strip v) y:=fun X' hh hm=>QS hs um ZL X' hh hm;rw[show k0+1+pos=k0+(pos+1) from by omega]at ih
    cases o' with
    |none =>
     obtain⟨i1,i2⟩:=ih;refine⟨by simp[i1],fun X' hh hm k u z hu hz=>?_⟩
     cases k with
     |zero=>simp at hu hz;subst hu;subst hz;exact h0 X' hh (fun b _=>hm b)
     |succ k=>exact i2 X' hh hm k u z (by simpa using hu) (by simpa using hz)
    |some cs =>
     obtain⟨i1,b,AY,c,e,i2,i3,i4,i5,i6,i7⟩:=ih;refine⟨by simp[i1],b,AY,c,e,i2,i3,i4,i5,i6,fun X' hh hm k1 k2 k u z hu hz=>?_⟩
     cases k with
     |zero=>simp at hu hz;subst hu;subst hz;exact h0 X' hh (fun b2 Dc=>hm b2 (fun e=>by rw[e,i3]at Dc;injection Dc with e2;omega))
     |succ k=>exact i7 X' hh hm k1 k2 k u z (by simpa using hu) (by simpa using hz)
   ·cases h
theorem R.ZM(hR:R E g S a w){id b:Nat}(hn:S.eR id)(hm:g.m b=0)(cJ:g.ow b=.none)(gG:E.w0.heap.size≤b){c:Array Value}{e:TypeId}(hh:w.heap[b]?=some (.cells c e (0,0)))
  {cs:List V} (fx:∀(j:Nat) (v:V),cs[j]?=some v→v.cM=true∧v.cu id=false∧∃y,c[j]?=some y∧bj (S.cx g w) v y) {cpn:Nat} (hcpn:cpn≤c.size) :
  ∃g',R E g' { S with bb:=(id,cs)::S.bb } a w∧g'.κ id=b∧g'.cp id=cpn∧g'.m=g.m:=by
 let g':Gh:={ g with κ:=c7 g.κ id b,cp:=c7 g.cp id cpn,ow:=c7 g.ow b (.obj id) }
 have t:Touch E g S w g' S.bm S.az.length w b (some id) none :=
  {os:=rfl,tape:=rfl,output:=rfl,size:=Nat.le_refl _,heap:=fun _ _ _=>rfl,m:=fun _ _=>rfl,ow:=fun _ hb=>gP _ _ hb,
   κ:=fun i hi=>gP _ _ (fun e=>hi (by rw[e])),cp:=fun i hi=>gP _ _ (fun e=>hi (by rw[e])),τ:=fun _ _=>rfl,T:=fun _ _=>rfl,γ:=fun _ _=>rfl,fb:=Nat.le_refl _,
   γnew:=fun i a b=>absurd a (by omega),fresh:=.inl gG,ig:=fun p q _ e=>by(have e:c7 g.ow b (.obj id) b=.cell p q:=e);rw[dP]at e;exact nomatch e
   lv:=fun i e=>by(have e:c7 g.ow b (.obj id) b=.az i:=e);rw[dP]at e;exact nomatch e
   jk:=fun _ _ _ h=>h,oC:=fun _=>Nat.le_refl _ }
 have kJ:∀i,iP (S.cx g w) ⟨w.heap,g',S.az.length,S.bm⟩ i∨i=id:=fun i=>by
  by_cases hi:i=id
  ·exact .inr hi
  ·exact .inl (t.keeps hR (fun e=>hi (by cases e;rfl)) (fun e=>by cases e) (fun _ e=>by rw[cJ]at e;cases e))
 refine⟨g',R.nf t hR rfl rfl (fun i=>(kJ i).imp (fun z=>z) fun e=>by rw[e];exact hn) (fun s v hs=>.inl hs) (fun i ek ho=>?_) (fun f k b hf hb=>.inl ⟨(fun e=>by cases e),fun _ e=>by rw[cJ]at e;cases e⟩)
  (fun i o ho=>.inl ⟨ho,fun _=>⟨fun e=>(by rw[cJ]at e;cases e),fun _ e=>(by rw[cJ]at e;cases e)⟩⟩),dP _ _ _,dP _ _ _,rfl⟩
 rw[dQ]at ho;by_cases hi:id=i
 ·subst hi
  rw[if_pos rfl]at ho;cases ho;refine .inr ⟨?_,?_,?_,c,e,?_,(by show c7 g.cp _ _ _≤_;rw[dP];exact hcpn),fun j v hj=>?_⟩
  ·show c7 g.ow _ _ (c7 g.κ _ _ _)=_;rw[dP,dP]
  ·show _≤c7 g.κ _ _ _;rw[dP];exact gG
  ·show g.m (c7 g.κ _ _ _)=_;rw[dP];exact hm
  ·show w.heap[c7 g.κ _ _ _]?=_;rw[dP];exact hh
  ·obtain⟨q1,q2,y,q3,q4⟩:=fx j v hj
   exact⟨q1,y,q3,q4.mono t.le fun i=>(kJ i).imp (fun z=>z) fun e=>by rw[e];exact q2⟩
 ·rw[if_neg hi]at ho
  exact .inl ⟨ho,fun e=>hi (by cases e;rfl),fun _ e=>by rw[cJ]at e;cases e⟩
theorem R.alone(hR:R E g S a w){N:Nat}(hx:Ext w (noCell g) 0 w' g' N)(m':Nat→Nat)(sD:∀b,b<w.heap.size→m' b=g.m b) :
  ∃gn,R E gn S a w'∧gn.m=m'∧∀b p,w.heap.size≤b→g'.ow b=.tok p→gn.ow b=.none:=by
 let g2:Gh:={ g' with m:=m',γ:=g.γ,ow:=fun b=>if b<w.heap.size then g.ow b else match g'.ow b with | .az _=>.none|q=>q }
 have hold:∀b,b<w.heap.size→w'.heap[b]?=w.heap[b]?∧m' b=g.m b:=fun b hb=>⟨(hx.lz b hb (fun i hi=>absurd hi (by simp)) (yk g b)).1,sD b hb⟩
 have CA:Ext w g S.az.length w' g2 S.az.length:=⟨hx.os,hx.tape,hx.output,hx.size,Nat.le_refl _,fun _ _=>rfl,fun i a b=>absurd a (by omega),fun b hb _ _=>hold b hb,
  fun b hb _=>⟨fun o y _ hy=>by rw[rW (hold b hb).1];exact hy,Nat.le_of_eq (hold b hb).2.symm⟩,fun b p q hb h=>⟨p,q,by(have h:(if b<w.heap.size then _ else _)=Ow.cell p q:=h);rw[if_pos hb]at h;exact h⟩,
  fun b i h hb=>by(have h:(if b<w.heap.size then _ else _)=Ow.az i:=h);rw[if_pos hb]at h;exact⟨h,(hR.az.z b i h).2⟩⟩
 have I2:∀i o,S.az[i]?=some o→xK w'.heap g2 (g2.γ i) o:=fun i o hi=>by
  have h3:=hR.az.own i o hi;cases o with
  |map es=>trivial
  |cells cs =>
   intro j n es y hj hy;have hy:cellAt w'.heap (g.γ i) j=some y:=hy;rw[rW (hold _ (Al hR hi (Oy hj))).1]at hy;rcases h3 j n es y hj hy with h | ⟨q,cap,c',e',q1,q2,q3,q4,q5,q6⟩
   ·exact .inl h
   ·have ph:q<w.heap.size:=by
     rcases Nat.lt_or_ge q w.heap.size with h|h
     ·exact h
     ·simp[Array.getElem?_eq_none h]at q4
    exact .inr ⟨q,cap,c',e',q1,by show(if q<w.heap.size then _ else _)=_;rw[if_pos ph];exact q2,(hold q ph).2.trans q3,(hold q ph).1.trans q4,q5,q6⟩
 have I3:∀b i,g2.ow b=.az i→g2.m b=0∧i<S.az.length:=fun b i h=>by
  have h:(if b<w.heap.size then g.ow b else match g'.ow b with | .az _=>.none|q=>q)=Ow.az i:=h
  split at h
  ·rename_i hb
   obtain⟨z1,z2⟩:=hR.az.z b i h;exact⟨(hold b hb).2.trans z1,z2⟩
  ·split at h
   ·cases h
   ·rename_i q hq;exact absurd h (hq i)
 have CD:qp w'.heap g2 S.az:=⟨fun i o hi=>by
  by_cases h0:o=.cells []
  ·exact .inl h0
  refine .inr ?_;obtain⟨h1,h2⟩:=(hR.az.obj i o hi).resolve_left h0;have bG:=Al hR hi h0;obtain⟨q1,q2⟩:=hold _ bG;have le:Le ⟨w.heap,g,S.az.length,[]⟩ ⟨w'.heap,g2,S.az.length,[]⟩ :=
   ⟨hx.size,fun b o y ho hy=>by
    have hb:=z6 hy;show cellAt w'.heap b o=some y;rw[rW (hold b hb).1];exact hy,fun b hb=>Nat.le_of_eq (hold b hb).2.symm,Nat.le_refl _,fun _ _=>rfl⟩
  refine⟨by show(if g.γ i<w.heap.size then _ else _)=_;rw[if_pos bG];exact h1,?_⟩
  cases o with
  |map es =>
   obtain⟨h3,c,e,h4,h5,h6⟩:=h2;refine⟨q2.trans h3,c,e,q1.trans h4,h5,fun j v y hj hy=>?_⟩;obtain⟨h7,h8,h9,fW⟩:=h6 j v y hj hy;exact⟨h7,h8,h9.mono le fun d=>.inr (h7 d),fW.mono le fun d=>.inr (tc (h8 d))⟩
  |cells cs =>
   obtain⟨h3,c,e,h4,h5,h6⟩:=h2;refine⟨q2.trans h3,c,e,q1.trans h4,h5,fun j v y hj hy=>?_⟩;obtain⟨h7,h8,h9⟩:=h6 j v y hj hy;exact⟨h7,h8,h9.mono le fun d=>.inr (h8 d)⟩,I2,I3⟩
 have ko:uy ⟨w'.heap,g2,S.az.length,[]⟩ w.heap.size (kM g) (.bool true) (.bool true):=by
  refine⟨[.bool true],rfl,rfl,fun p v y hv hy=>?_⟩
  match p with
  |0 =>
   simp[V.fR]at hv hy;subst hv;subst hy;exact⟨.plain (.bool _) (rY rfl),fun _=>rfl,fun f n es e=>by cases e⟩
  |p+1=>simp[V.fR]at hv
 obtain⟨gn,r1,_,r3,r4⟩:=hR.called (reg:=[]) CA CD ko rfl (fun p f h=>by simp[look]at h)
 refine⟨gn,r1,r3,fun b p hb ho=>r4 b p hb ?_ rfl⟩;show(if b<w.heap.size then _ else _)=_
 rw[if_neg (by omega),ho]
theorem I9{o:Oper}{f:Operand}{args:Array Operand}{ts:Array TypeId}{fo:bB}{as:List (Sh×bB)}{id pos:Nat}{C:bC}(ho:o.op=.call ⟨.value f,args,ts⟩)(hf:bX f fo=true)
  (has:as.length=args.toList.length∧∀(i:Nat) sh x y,as[i]?=some (sh,x)→args.toList[i]?=some y→bX y x=true)
  (hC:∀f args G r G',C f args G=some (r,G')→r8 P f args G r G') (hn:S.eR id)
  (hR:R E g S a w) (hd:∀d,o.dst=some d→d<E.nt) (aj:VO.run C o.dst S (.own fo as id pos)=some S'):ct P E o S S' a w:=by
 simp only[VO.run]at aj;split at aj
 ·rename_i mq vs uz qq
  split at aj
  ·rename_i r G' jR
   have tl:=hC _ _ _ _ _ jR;obtain⟨fn,pT,tm,oK⟩:=tl.fn;have e1:a.eval f=.func (.func mq) #[] #[]:=by
    have hr:=cZ hR hf uz;generalize a.eval f=y at hr;cases hr with
    |plain h _=>cases h
    |fn _ _ xs hl hx =>
     have:xs = #[]:=by
      apply Array.eq_empty_of_size_eq_zero;simpa using hl.symm
     rw[this]
   obtain⟨hl,hx⟩:=I0 hR 0 has qq;have gI:(execOp a.eval o).run P w=.ok (.enter mq (args.map a.eval)) w:=by
    simp[execOp,ho,resolve,e1,Deferred.ofValue,invoke,callFunc,pT];simp at oK;cases hb:fn.body with
    |none=>simp[hb]at tm
    |some c=>simp[oK]
   intro K Q hK;unfold Oper.wp;rw[gI,Oper.upon_enter];have vG:=tl.run w (noCell g) (args.toList.map a.eval) ⟨fun i o h=>by simp at h,fun i o h=>by simp at h,I1 g⟩ (by simp;simpa using hl) (fun i v x hv kj=>bj.mono (X:=⟨w.heap,g,0,[]⟩) (X':=⟨w.heap,noCell g,0,[]⟩) ⟨Nat.le_refl _,fun _ _ _ _ h=>h,fun _ _=>Nat.le_refl _,Nat.le_refl _,fun _ _=>rfl⟩ (hx i v x hv kj) (fun d=>.inl ⟨rfl,rfl,fun k hk=>by simp[look]at hk⟩))
   have uA:(args.toList.map a.eval).toArray=args.map a.eval:=by
    apply Array.ext';simp
   rw[uA]at vG;refine vG.mono fun e w' ⟨x,g',he,hext,hG,ko⟩=>?_;subst he;have hv:∀v cs,jN id pos r=some (v,cs)→∃us ys,Kr ⟨w'.heap,g',G'.length,[]⟩ w.heap.size pos id us ys cs∧∀X':Cx,(∀(k:Nat) (u:V) (y:Value),us[k]?=some u→ys[k]?=some y→bj X' u y)→bj X' v x:=fun v cs kO=>by
    obtain⟨ys,p1,p2,p3⟩:=ko;have AS:∀vs us,r.fR=vs→nT id pos vs=some (us,cs)→Kr ⟨w'.heap,g',G'.length,[]⟩ w.heap.size pos id us ys cs:=fun vs us qq ho=>by
     subst qq;have:=QT (k0:=0) ho p2.symm (fun k v y hv hy=>by
      obtain⟨q1,_,q3⟩:=p3 k v y hv hy;rw[Nat.zero_add];exact⟨q1,fun f n es e=>(q3 f n es e).imp (fun z=>z) fun⟨b,off,cap,c,e,h1,h2,h3⟩=>⟨b,off,cap,c,e,h1,.inl (h2.resolve_right (yk g b)),h3⟩⟩)
     rwa [Nat.zero_add]at this
    unfold jN at kO;split at kO
    ·rename_i Ac
     split at kO
     ·rename_i us o' FX
      simp only[Option.some.injEq,Prod.mk.injEq]at kO;obtain⟨rfl,rfl⟩:=kO;have hr:=AS _ us rfl FX;refine⟨us,ys,hr,fun X' h=>?_⟩;have hp:x=.tuple ys.toArray:=p1;rw[hp];have hlen:us.length=ys.length:=by cases o'<;>exact hr.1
      exact .tuple _ _ (by simpa using hlen) fun i v y hv hy=>h i v y hv (by simpa using hy)
     ·cases kO
    ·rename_i QU
     split at kO
     ·rename_i u o' FX
      simp only[Option.some.injEq,Prod.mk.injEq]at kO;obtain⟨rfl,rfl⟩:=kO;have QV:∀cs,r≠.agg cs:=fun cs e=>by
       subst e;cases pos<;>simp[nT,V.sc]at FX
      have hc:r.fR=[r]:=by
       cases r<;>first|rfl|(exact absurd rfl (QU _))|(exact absurd rfl (QV _))
      have hr:=AS _ [u] hc FX;refine⟨[u],ys,hr,fun X' h=>?_⟩;have hp:ys=[x]:=by
       cases r<;>first|exact p1|(exact absurd rfl (QU _))|(exact absurd rfl (QV _))
      exact h 0 u x rfl (by rw[hp];rfl)
     ·cases kO
   split at aj
   ·rename_i v cs kO
    cases aj;obtain⟨us,ys,⟨_,b,AY,c,e,h1,h2,h3,h4,h5,h6⟩,pV⟩:=hv v (some cs) kO;obtain⟨gn,r1,r2,r3⟩:=hR.alone hext (fun i=>if i=b then 0 else g'.m i) (fun i hi=>by
     rw[if_neg (by omega)]
     exact(hext.lz i hi (fun i hi=>absurd hi (by simp)) (yk g i)).2)
    obtain⟨gk,k1,k2,k3,k4⟩:=r1.ZM (cs:=cs) (cpn:=AY) hn (by rw[r2];exact if_pos rfl) (r3 b pos h1 h2) (Nat.le_trans hR.same.size h1) h3 (fun j u hu=>by
     obtain⟨q1,y,q2,q3⟩:=h5 j u hu;exact⟨(FW q1).1,(FW q1).2.1 _,y,q2,q3 _⟩) h4
    exact hK gk _ _ (k1.put hd (pV _ (h6 _ rfl (fun b' mK=>by show g'.m b'≤gk.m b';rw[k4,r2];simp only[if_neg mK];exact Nat.le_refl _) k2 k3)))
   ·rename_i v kO
    cases aj;obtain⟨us,ys,⟨_,h1⟩,pV⟩:=hv v none kO;obtain⟨gn,r1,r2,_⟩:=hR.alone hext g'.m (fun i hi=>(hext.lz i hi (fun i hi=>absurd hi (by simp)) (yk g i)).2)
    exact hK gn _ _ (r1.put hd (pV _ (h1 _ rfl (fun b=>by show g'.m b≤gn.m b;rw[r2];exact Nat.le_refl _))))
   ·cases aj
  ·cases aj
 ·cases aj
theorem XQ{o:Oper}{f:Operand}{args:Array Operand}{ts:Array TypeId}{fo:bB}{as:List (Sh×bB)}{id:Nat}{C:bC}(ho:o.op=.call ⟨.value f,args,ts⟩)(hf:bX f fo=true)
  (has:as.length=args.toList.length∧∀(i:Nat) sh x y,as[i]?=some (sh,x)→args.toList[i]?=some y→bX y x=true)
  (hC:∀f args G r G',C f args G=some (r,G')→r8 P f args G r G') (hn:S.eR id) (ZN:o.dst.isSome=true)
  (hR:R E g S a w) (hd:∀d,o.dst=some d→d<E.nt) (aj:VO.run C o.dst S (.pG fo as id)=some S'):ct P E o S S' a w:=by
 obtain⟨dd,A0⟩:=Option.isSome_iff_exists.1 ZN;simp only[VO.run]at aj;split at aj
 ·rename_i mq vs uz qq
  split at aj
  ·rename_i r G' jR
   have vv:∀S0:St,(∀s v,s≠dd→look s S.env=some v→look s S0.env=some v)→(∀i cs,look i S.bb=some cs→look i S0.bb=some cs)→S0.bm=S.bm→S0.az=S.az →
     pC ({ S with env:=S.env.filter fun p => !(p.1==dd) }:St) S0:=fun S0 h1 h2 h3 h4=>by
    refine⟨fun s v e=>?_,h2,fun f k e=>by rw[h3];exact e,h4.symm⟩
    simp only[oO]at e;split at e
    ·cases e
    ·rename_i cF;exact h1 s v cF e
   have ZO:({ S with env:=S.env.filter fun p => !(p.1==dd) }:St).eR id:=JA.eR hn;have fin:∀{g1:Gh} {a1:Act} {w1:World} {G1:List aW} {x:Value} {u:V},R E g1 { S with env:=S.env.filter fun p => !(p.1==dd),az:=G1 } a1 w1→a1.tmps[dd]?=some x→bj (({ S with az:=G1 }:St).cx g1 w1) u x →
     R E g1 (({ S with az:=G1 }:St).put (some dd) u) a1 w1:=fun {g1 a1 w1 G1 x u} r hx hr=>by
    refine⟨fun s v hs=>?_,r.bb,r.bm,r.az,r.defers,r.jy,r.same⟩;rw[z7,dQ]at hs;split at hs
    ·rename_i e;subst e;cases hs;exact⟨x,hx,hr⟩
    ·rename_i cF
     refine r.env s v ?_;show look s (S.env.filter fun p => !(p.1==dd))=some v;rw[oO,if_neg (fun e=>cF e.symm)];exact hs
   split at aj
   ·rename_i lX n len cs kO
    cases hc:(lX==id&&Nat.blt 0 cs.length&&Nat.blt 0 len&&cs.all V.sc) with
    |false=>simp[hc]at aj
    |true =>
    simp only[hc,cond_true]at aj;simp only[Bool.and_eq_true,beq_iff_eq,List.all_eq_true]at hc;obtain⟨⟨⟨mo,hH⟩,hlen⟩,yF⟩:=hc;have hH:0<cs.length:=by simpa [Nat.blt_eq] using hH
    have hlen:0<len:=by simpa [Nat.blt_eq] using hlen
    cases aj;subst mo;have Ks:=I9 (id:=lX) (pos:=0) (S':={ S with bb:=(lX,cs)::S.bb }.put o.dst (.cb lX n len)) ho hf has hC hn hR hd (by simp only[VO.run,uz,qq,jR,kO])
    intro K Q hK;refine Ks K Q fun g1 a1 w1 fm=>?_;rw[A0,z7]at fm;obtain⟨x,hx,hr⟩:=fm.env dd (.cb lX n len) (by show look dd ((dd,V.cb lX n len)::S.env)=_;rw[dQ,if_pos rfl])
    have fE:=fm.bb lX cs (by show look lX ((lX,cs)::S.bb)=_;rw[dQ,if_pos rfl])
    have AH:R E g1 { S with env:=S.env.filter fun p => !(p.1==dd) } a1 w1:=fm.less (vv _ (fun s v cF h=>by show look s ((dd,V.cb lX n len)::S.env)=_;rw[dQ,if_neg (fun e=>cF e.symm)];exact h)
     (fun i ek h=>by show look i ((lX,cs)::S.bb)=_;rw[dQ,if_neg (fun e=>by subst e;rw[hn.obj]at h;cases h)];exact h) rfl rfl)
    rcases fE with⟨rfl,um⟩ | ⟨cJ,gG,hm,c,e,hh,fH,hj⟩
    ·simp at hH
    ·obtain⟨cap,eP,uF,hxe⟩:∃cap,len≤cap∧cap*n=g1.cp lX∧x=.slice (some ⟨g1.κ lX,0,none⟩) len cap:=by
      rcases pJ hr with h | ⟨h1,h2,h3⟩
      ·exact h
      ·omega
     obtain⟨g2,r1,r2⟩:=AH.Pw (n:=n) ZO cJ gG hm hh hxe eP (us:=cs) (fun j v hv=>by
      obtain⟨_,y,hy,pN⟩:=hj j v hv;have hs:=yF v (List.mem_of_getElem? hv);refine⟨by cases v<;>simp_all[V.sc,V.plain],y,hy,?_⟩
      cases v<;>simp[V.sc]at hs<;>(cases pN with|plain h _=>exact h))
     exact hK g2 _ _ (by rw[A0];exact fin r1 hx r2)
   ·rename_i n kO
    cases aj;have Ks:=I9 (id:=id) (pos:=0) (S':=S.put o.dst (.dW n)) ho hf has hC hn hR hd (by simp only[VO.run,uz,qq,jR,kO])
    intro K Q hK;refine Ks K Q fun g1 a1 w1 fm=>?_;rw[A0,z7]at fm;obtain⟨g2,r1⟩:=Fw (n:=n) fm (s:=dd) (v:=.dW n) (by show look dd ((dd,V.dW n)::S.env)=_;rw[dQ,if_pos rfl]) (fun x hx=>rh hx)
    refine hK g2 _ _ ?_;rw[A0];refine⟨fun s v hs=>?_,r1.bb,r1.bm,r1.az,r1.defers,r1.jy,r1.same⟩;rw[z7,dQ]at hs;refine r1.env s v ?_;show look s ((dd,V.dB S.az.length n 0)::(dd,V.dW n)::S.env)=some v;rw[dQ];split at hs
    ·rename_i e;rw[if_pos e];exact hs
    ·rename_i e;rw[if_neg e,dQ,if_neg e];exact hs
   ·cases aj
  ·cases aj
 ·cases aj
def vH(S:St)(g:Gh)(w:World)(ids:List Nat):Gh :=
 {noCell g with m:=fun b=>if (ids.any fun id=>(look id S.bb).isSome&&g.cp id != 0&&g.κ id==b)=true then (match w.heap[b]? with|some (.cells c _ _)=>c.size|_=>0) else g.m b }
theorem QX(hR:R E g S a w)(ids:List Nat)(N:Nat):Le ⟨w.heap,g,N,[]⟩ ⟨w.heap,vH S g w ids,N,[]⟩ where
 size:=Nat.le_refl _
 cells:=fun _ _ _ _ h=>h
 m:=fun b _=>by
  show g.m b≤if _ then _ else g.m b
  split
  ·rename_i h
   simp only[List.any_eq_true,Bool.and_eq_true,beq_iff_eq,bne_iff_ne,ne_eq]at h;obtain⟨id,_,⟨h1,h2⟩,rfl⟩:=h;obtain⟨cs,fx⟩:=Option.isSome_iff_exists.1 h1;rw[((hR.bb id cs fx).resolve_left (fun h=>h2 h.2)).2.2.1];exact Nat.zero_le _
  ·exact Nat.le_refl _
 fb:=Nat.le_refl _
 γ:=fun _ _=>rfl
theorem QY(hR:R E g S a w)(ids:List Nat):∀{args:List (Sh×Sh×bB)} {ops:List Operand} {vs:List V},(args.length=ops.length∧∀(i:Nat) rs sh x y,args[i]?=some (rs,sh,x)→ops[i]?=some y→bX y x=true)→oy S ids args=some vs →
  vs.length=ops.length∧∀(i:Nat) (v:V) (x:Value),vs[i]?=some v→(ops.map a.eval)[i]?=some x→bj ⟨w.heap,vH S g w ids,0,[]⟩ v x
 |[],[],vs,_,h=>by simp[oy]at h;subst h;simp
 |[],_::_,_,h,_=>by simp at h
 |_::_,[],_,h,_=>by simp at h
 |(rs,sh,x)::args,y::ops,vs,bz,h=>by
  simp only[oy]at h;split at h
  ·rename_i u us h1 h2
   cases h;have pN:∀v,S.ev x=some v→bj (S.cx g w) v (a.eval y):=fun v hv=>cZ hR (bz.2 0 rs sh x y (by simp) (by simp)) hv
   have hr:bj ⟨w.heap,vH S g w ids,0,[]⟩ u (a.eval y):=by
    split at h1
    ·rename_i id s n xP
     unfold St.zY at h1;cases hc:ids.contains id with
     |false=>rw[hc]at h1;cases h1
     |true =>
      rw[hc]at h1;simp only[cond_true]at h1;split at h1
      ·rename_i es kK
       cases h1;have hl:=pN _ xP;obtain⟨lX,n',he,hlen,tr⟩:=Ir hR hl kK;cases he;have hz:n=0→bj ⟨w.heap,vH S g w ids,0,[]⟩ (.slice none rs.length es) (a.eval y):=fun h0=>by
        subst h0;obtain rfl:=List.length_eq_zero_iff.1 hlen;refine .plain ?_ (fun _ _ _ e=>by cases e)
        rcases pJ hl with⟨cap,_,_,e⟩ | ⟨_,e | ⟨q,e⟩,_⟩
        ·rw[e];exact .empty _ _ _ _
        ·rw[e];exact .nil _ _
        ·rw[e];exact .empty _ _ _ _
       rcases Nat.eq_zero_or_pos n with h0|h0
       ·exact hz h0
       obtain⟨cap,eP,hx,c,e,hh,fX,xR,cJ,gG,_⟩:=tr.resolve_left (fun h=>by omega)
       have Dd:∃cs,look id S.bb=some cs:=by
        unfold St.rS at kK;simp only at kK;split at kK
        ·rename_i cs h;exact⟨cs,h⟩
        ·cases kK
       obtain⟨cs,fx⟩:=Dd;have fH:g.cp id≠0:=by
        obtain⟨nZ,h1,h2,_⟩:=(pJ hl).resolve_right (fun h=>by omega)
        have h2:nZ*rs.length=g.cp id:=h2;have hH:0<rs.length:=by
         unfold St.rS at kK;simp only[fx]at kK;rcases Nat.eq_zero_or_pos rs.length with h|h
         ·have h2:Nat.blt 0 rs.length=false:=by rw[h];rfl
          rw[h2]at kK;simp at kK
         ·exact h
        have:=Nat.mul_pos (show 0<nZ by omega) hH
        omega
       have hm:(vH S g w ids).m (g.κ id)=c.size:=by
        show(if _ then _ else _)=_
        rw[if_pos,hh];simp only[List.any_eq_true,Bool.and_eq_true,beq_iff_eq,bne_iff_ne,ne_eq];exact⟨id,by simpa using hc,⟨by rw[fx];rfl,fH⟩,rfl⟩
       have bG:g.κ id<w.heap.size:=by
        rcases Nat.lt_or_ge (g.κ id) w.heap.size with h|h
        ·exact h
        ·simp[Array.getElem?_eq_none h]at hh
       rw[hx,← hlen];refine .plain (Ad (m:=(vH S g w ids).m) (xR.mono (QX hR ids 0)) bG (by omega) (fun j y hj=>?_) ?_ _) (fun _ _ _ e=>by cases e)
       ·show cellAt w.heap (g.κ id) _=_
        rw[lg hh];rw[List.getElem?_take]at hj;split at hj
        ·simpa using hj
        ·cases hj
       ·show _≤(vH S g w ids).m (g.κ id)
        rw[hm,hlen,Nat.zero_add];exact fX
      ·cases h1
    ·rename_i v _ xP
     exact(OK h1 (pN _ xP) 0).mono (QX hR ids 0) (fun d=>.inl ⟨rfl,rfl,fun k hk=>by simp[look]at hk⟩)
    ·cases h1
   obtain⟨e,hx⟩:=QY hR ids (args:=args) (ops:=ops) ⟨by simpa using bz.1,fun i vb vi x' y' hi hj=>bz.2 (i+1) vb vi x' y' (by simpa using hi) (by simpa using hj)⟩ h2
   refine⟨by simp[e],fun i z zz hz qy=>?_⟩
   cases i with
   |zero=>simp at hz qy;subst hz;subst qy;exact hr
   |succ i=>exact hx i z zz (by simpa using hz) (by simpa using qy)
  ·cases h
theorem XR{o:Oper}{f:Operand}{args:Array Operand}{ts:Array TypeId}{fo:bB}{as:List (Sh×Sh×bB)}{ids:List Nat}{C:bC}(ho:o.op=.call ⟨.value f,args,ts⟩)(hf:bX f fo=true)
  (has:as.length=args.toList.length∧∀(i:Nat) rs sh x y,as[i]?=some (rs,sh,x)→args.toList[i]?=some y→bX y x=true)
  (hC:∀f args G r G',C f args G=some (r,G')→r8 P f args G r G')
  (hR:R E g S a w) (hd:∀d,o.dst=some d→d<E.nt) (aj:VO.run C o.dst S (.pe fo as ids)=some S'):ct P E o S S' a w:=by
 simp only[VO.run]at aj;split at aj
 ·rename_i mq vs uz qq
  split at aj
  ·rename_i r G' jR
   cases yG:r.oz with
   |false=>rw[yG]at aj;cases aj
   |true =>
   rw[yG]at aj;simp only[cond_true,Option.some.injEq]at aj;subst aj;have tl:=hC _ _ _ _ _ jR;obtain⟨fn,pT,tm,oK⟩:=tl.fn;have e1:a.eval f=.func (.func mq) #[] #[]:=by
    have hr:=cZ hR hf uz;generalize a.eval f=y at hr;cases hr with
    |plain h _=>cases h
    |fn _ _ xs hl hx =>
     have:xs = #[]:=by
      apply Array.eq_empty_of_size_eq_zero;simpa using hl.symm
     rw[this]
   obtain⟨hl,hx⟩:=QY hR ids has qq;have gI:(execOp a.eval o).run P w=.ok (.enter mq (args.map a.eval)) w:=by
    simp[execOp,ho,resolve,e1,Deferred.ofValue,invoke,callFunc,pT];simp at oK;cases hb:fn.body with
    |none=>simp[hb]at tm
    |some c=>simp[oK]
   intro K Q hK;unfold Oper.wp;rw[gI,Oper.upon_enter];have vG:=tl.run w (vH S g w ids) (args.toList.map a.eval) ⟨fun i o h=>by simp at h,fun i o h=>by simp at h,fun b i h=>absurd (I1 g b i h).2 (by omega)⟩ (by simp;simpa using hl) hx
   have uA:(args.toList.map a.eval).toArray=args.map a.eval:=by
    apply Array.ext';simp
   rw[uA]at vG;refine vG.mono fun e w' ⟨x,g',he,hext,hG,ko⟩=>?_;subst he;have lh:∀b,¬ kM (vH S g w ids) b:=fun b=>yk g b;have hold:∀b,b<w.heap.size→w'.heap[b]?=w.heap[b]?:=fun b hb=>(hext.lz b hb (fun i hi=>absurd hi (by simp)) (lh b)).1
   let m':Nat→Nat:=fun b=>if b<w.heap.size then g.m b else g'.m b
   have CA:Ext w (noCell g) 0 w' { g' with m:=m' } G'.length :=
    ⟨hext.os,hext.tape,hext.output,hext.size,hext.fb,hext.γ,hext.γnew,fun b hb _ _=>⟨hold b hb,if_pos hb⟩,fun b hb hw=>absurd hw (yk g b),fun b p q hb h=>absurd (hext.ig b p q hb h) (lh b),hext.lv⟩
   obtain⟨gn,r1,_,_⟩:=hR.alone CA m' (fun b hb=>if_pos hb);refine hK gn _ _ (r1.put hd ?_);obtain⟨ys,p1,p2,p3⟩:=ko;have sc:∀(k:Nat) (v:V) (y:Value),r.fR[k]?=some v→v.sc=true→ys[k]?=some y→bj (S.cx gn w') v y:=fun k v y hv hs hy=>Kq hs (p3 k v y hv hy).1 _;cases r with
   |tuple vs =>
    simp only[V.oz,List.all_eq_true]at yG;have hp:x=.tuple ys.toArray:=p1;rw[hp];exact .tuple _ _ (by have:=p2;simp[V.fR]at this;simpa using this.symm) fun i v y hv hy=>sc i v y hv (yG v (List.mem_of_getElem? hv)) (by simpa using hy)
   |agg vs =>
    simp only[V.oz,List.all_eq_true]at yG;have hp:x=.agg ys.toArray:=p1;rw[hp];exact .agg _ _ (by have:=p2;simp[V.fR]at this;simpa using this.symm) fun i v y hv hy=>sc i v y hv (yG v (List.mem_of_getElem? hv)) (by simpa using hy)
   |_ =>
    have hp:ys=[x]:=p1;exact sc 0 _ x rfl yG (by rw[hp];rfl)
  ·cases aj
 ·cases aj
end
end Go.Vm
