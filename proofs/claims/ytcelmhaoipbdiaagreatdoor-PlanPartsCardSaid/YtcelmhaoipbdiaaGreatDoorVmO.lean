/- The value machine, 9b: local objects that grow. -/
import Derived.Test.YtcelmhaoipbdiaaGreatDoorVm9
namespace Go.Vm
set_option linter.all false
section
variable {P:Program} {E:Entry} {g g':Gh} {S S':St} {a:Act} {w w':World}
theorem tm{α:Type}{s d:Nat}:∀{l:List (Nat×α)},look s (l.filter fun p => !(p.1==d))=if s=d then none else look s l
 |[]=>by simp[look]
 |(k,v)::l=>by
  have ih:=tm (s:=s) (d:=d) (l:=l);cases h:k==d with
  |true =>
   have:=eq_of_beq h;subst this;simp only[List.filter,h,Bool.not_true];rw[ih,dj];by_cases hs:s=k
   ·simp[hs]
   ·rw[aA hs,aA hs,aA (fun e=>hs e.symm)]
  |false =>
   simp only[List.filter,h,Bool.not_false];rw[dj,dj,ih];by_cases hk:k=s
   ·subst hk
    have:k≠d:=by simpa using h
    simp[this]
   ·rw[aA hk,aA hk]
theorem Ns{v:V}{d:Nat}(h:v.plain=true):v.cA d=false:=by
 cases v<;>simp_all[V.plain,V.cA];rename_i t _ _;cases t<;>simp_all[V.plain,V.cA]
theorem R.drop(hR:R E g S a w)(d:Nat):R E g { S with aW:=S.aW.filter fun p => !(p.1==d) } a w :=
 ⟨hR.env,fun id cs ho=>by
  have ho:look id (S.aW.filter fun p => !(p.1==d))=some cs:=ho;rw[tm]at ho;split at ho
  ·cases ho
  ·exact hR.aW id cs ho,hR.bf,hR.ay,hR.defers,hR.jg,hR.same⟩
theorem R.Jw(hR:R E g S a w){id:Nat}(hn:S.eM id)(k:Nat):∃g',R E g' { S with aW:=(id,[])::S.aW } a w∧g'.κ id=k∧g'.cp id=0∧(∀v x,aZ (S.cx g w) v x→v.ch id=false→aZ (S.cx g' w) v x)∧∀j,j≠id→g'.κ j=g.κ j∧g'.cp j=g.cp j:=by
 let g':Gh:={ g with κ:=cU g.κ id k,cp:=cU g.cp id 0 }
 have t:Touch E g S w g' S.bf S.ay.length w w.heap.size (some id) none :=
  {os:=rfl,tape:=rfl,output:=rfl,size:=bR _,heap:=fun _ _ _=>rfl,m:=fun _ _=>rfl,ow:=fun _ _=>rfl,κ:=fun i hi=>fN _ _ (fun e=>hi (by rw[e])),cp:=fun i hi=>fN _ _ (fun e=>hi (by rw[e])),
   τ:=fun _ _=>rfl,T:=fun _ _=>rfl,γ:=fun _ _=>rfl,eD:=bR _,
   γnew:=fun i a b=>absurd a (by omega),fresh:=.inl hR.same.size,hY:=fun _ _ h _=>absurd hR.same.size (A1 h),lv:=fun i h=>hR.CO h (bR _),jJ:=fun _ _ _ hy=>hy,pC:=fun h=>absurd h (gO _) }
 have lb:∀i,iM (S.cx g w) ⟨w.heap,g',S.ay.length,S.bf⟩ i∨i=id:=fun i=>by
  by_cases hi:i=id
  ·exact .inr hi
  ·exact .inl (t.keeps hR (fun e=>hi (by cases e;rfl)) (fun e=>by cases e) (fun h=>absurd h (gO _)))
 have r1:R E g' S a w:=R.nB t hR rfl rfl (fun i=>(lb i).imp (fun z=>z) fun e=>by rw[e];exact hn) (fun s v hs=>.inl hs) (fun i cs ho=>.inl ⟨ho,(fun e=>by cases e;rw[hn.obj]at ho;cases ho),fun h=>absurd h (gO _)⟩)
  (fun i k b hi hb=>.inl ⟨(fun e=>by cases e),fun h=>absurd h (gO _)⟩) (fun i o ho=>.inl ⟨ho,fun h=>absurd h (gO _)⟩)
 refine⟨g',⟨r1.env,fun i cs hi=>?_,r1.bf,r1.ay,r1.defers,r1.jg,r1.same⟩,dF _ _ _,dF _ _ _,fun v x hx hv=>hx.mono t.le fun i=>(lb i).imp (fun z=>z) fun e=>by rw[e];exact hv,fun _ h=>⟨fN _ _ h,fN _ _ h⟩⟩
 have hi:look i ((id,[])::S.aW)=some cs:=hi;rw[dj]at hi;by_cases jk:id=i
 ·subst jk
  rw[aP rfl]at hi;cases hi;exact .inl ⟨rfl,dF _ _ _⟩
 ·rw[aA jk]at hi
  exact r1.aW i cs hi
theorem R.F2(hR:R E g S a w){i b:Nat}{cs:List V}(hn:S.eM b)(ho:look i S.aW=some cs) :
  ∃g',R E g' { S with aW:=(b,cs)::S.aW.filter fun p => !(p.1==i) } a w∧(∀s n x,aZ (S.cx g w) (.bP i s n) x→aZ (S.cx g' w) (.bP b s n) x) ∧
   (∀v x,aZ (S.cx g w) v x→v.ch b=false→aZ (S.cx g' w) v x)∧∀s n x,aZ (S.cx g' w) (.bP i s n) x→aZ (S.cx g' w) (.bP b s n) x:=by
 have lr:∀{g':Gh},g'.κ b=g'.κ i→g'.cp b=g'.cp i→∀s n x,aZ (S.cx g' w) (.bP i s n) x→aZ (S.cx g' w) (.bP b s n) x:=fun {g'} h1 h2 s n x hx=>by
  rcases qa hx with⟨cap,h3,h4,rfl⟩ | ⟨rfl,hz,h0⟩
  ·have e1:(S.cx g' w).g.κ i=(S.cx g' w).g.κ b:=h1.symm
   rw[e1];exact .bP b s n cap h3 (h4.trans h2.symm)
  ·exact .p8 _ _ hz (h2.trans h0)
 have Gu:i≠b:=fun h=>by subst h;rw[hn.obj]at ho;cases ho
 rcases hR.aW i cs ho with⟨h0,vq⟩ | ⟨cj,fU,hm,c,e,hh,fJ,hj⟩
 ·subst h0
  obtain⟨g',r1,r2,r3,r4,r5⟩:=(hR.drop i).Jw (id:=b) ⟨hn.env,fun k cs hk=>by
   have hk:look k (S.aW.filter fun p => !(p.1==i))=some cs:=hk;rw[tm]at hk;split at hk
   ·cases hk
   ·exact hn.aW k cs hk,by show look b (S.aW.filter fun p => !(p.1==i))=none;rw[tm,aA (fun e=>Gu e.symm)];exact hn.obj,hn.tok⟩ (g.κ i)
  refine⟨g',r1,fun s n x hx=>?_,fun v x hx hv=>r4 v x hx hv,lr (by rw[r2,(r5 i Gu).1]) (by rw[r3,(r5 i Gu).2,vq])⟩
  rcases qa hx with⟨cap,h1,h2,rfl⟩ | ⟨rfl,hz,_⟩
  ·have e1:(S.cx g w).g.κ i=(S.cx g' w).g.κ b:=r2.symm
   rw[e1];exact .bP b s n cap h1 ((h2.trans vq).trans r3.symm)
  ·exact .p8 _ _ hz r3
 let g':Gh:={ g with κ:=cU g.κ b (g.κ i),cp:=cU g.cp b (g.cp i),ow:=cU g.ow (g.κ i) (.obj b) }
 have bB:g.κ i<w.heap.size:=by
  rcases cF (g.κ i) w.heap.size with h|h
  ·exact h
  ·simp[lU h]at hh
 have t:Touch E g S w g' S.bf S.ay.length w (g.κ i) (some b) none :=
  {os:=rfl,tape:=rfl,output:=rfl,size:=bR _,heap:=fun _ _ _=>rfl,m:=fun _ _=>rfl,ow:=fun k hk=>fN _ _ hk,κ:=fun k hk=>fN _ _ (fun e=>hk (by rw[e])),
   cp:=fun k hk=>fN _ _ (fun e=>hk (by rw[e])),τ:=fun _ _=>rfl,T:=fun _ _=>rfl,
   γ:=fun _ _=>rfl,eD:=bR _,γnew:=fun k h1 h2=>absurd h1 (by omega),fresh:=.inl fU,hY:=fun p q _ e=>by(have e:cU g.ow (g.κ i) (.obj b) (g.κ i)=.cell p q:=e);rw[dF]at e;exact nomatch e
   lv:=fun k e=>by(have e:cU g.ow (g.κ i) (.obj b) (g.κ i)=.ay k:=e);rw[dF]at e;exact nomatch e
   jJ:=fun _ _ _ h=>h,pC:=fun _=>bR _ }
 have hk:∀k,iM (S.cx g w) ⟨w.heap,g',S.ay.length,S.bf⟩ k∨k=b:=fun k=>by
  by_cases h:k=b
  ·exact .inr h
  ·exact .inl (t.keeps hR (fun e=>h (by cases e;rfl)) (fun e=>by cases e) (fun _ e=>by rw[cj]at e;cases e))
 refine⟨g',R.nB t hR rfl rfl (fun k=>(hk k).imp (fun z=>z) fun e=>by rw[e];exact hn) (fun s v hs=>.inl hs) (fun k dQ hi=>?_) (fun f k q hf hq=>.inl ⟨(fun e=>by cases e),fun _ e=>by rw[cj]at e;cases e⟩)
  (fun k o hi=>.inl ⟨hi,fun _=>⟨fun e=>(by rw[cj]at e;cases e),fun _ e=>(by rw[cj]at e;cases e)⟩⟩),fun s n x hx=>?_,fun v x hx hv=>hx.mono t.le fun k=>(hk k).imp (fun z=>z) fun e=>by rw[e];exact hv,lr (by show cU _ _ _ _=cU _ _ _ _;rw[dF,fN _ _ Gu]) (by show cU _ _ _ _=cU _ _ _ _;rw[dF,fN _ _ Gu])⟩
 ·have hi:look k ((b,cs)::S.aW.filter fun p => !(p.1==i))=some dQ:=hi
  rw[dj]at hi;by_cases Ov:b=k
  ·subst Ov
   rw[aP rfl]at hi;cases hi;refine .inr ⟨?_,?_,?_,c,e,?_,?_,fun j v hv=>?_⟩
   ·show cU g.ow _ _ (cU g.κ _ _ _)=_;rw[dF,dF]
   ·show _≤cU g.κ _ _ _;rw[dF];exact fU
   ·show g.m (cU g.κ _ _ _)=_;rw[dF];exact hm
   ·show w.heap[cU g.κ _ _ _]?=_;rw[dF];exact hh
   ·show cU g.cp _ _ _≤_;rw[dF];exact fJ
   ·obtain⟨q1,y,q2,q3⟩:=hj j v hv
    exact⟨q1,y,q2,q3.mono t.le fun k=>(hk k).imp (fun z=>z) fun e=>by rw[e];exact s9 (hn.aW i cs ho v (gH hv))⟩
  ·rw[aA Ov,tm]at hi
   split at hi
   ·cases hi
   ·rename_i Dn
    exact .inl ⟨hi,(fun e=>Ov (by cases e;rfl)),fun _ e=>Dn (by rw[cj]at e;cases e;rfl)⟩
 ·rcases qa hx with⟨cap,h,hc,rfl⟩ | ⟨rfl,hz,h0⟩
  ·have e1:(S.cx g w).g.κ i=(S.cx g' w).g.κ b:=(dF g.κ b (g.κ i)).symm
   rw[e1];exact .bP b s n cap h (hc.trans (dF g.cp b (g.cp i)).symm)
  ·exact .p8 _ _ hz ((dF g.cp b (g.cp i)).trans h0)
theorem xR{h:Array Obj}{m:Nat→Nat}{n:Nat}:∀{ys:List (List V)} {l:List Value},jB h m n ys l→ys.flatten.length=l.length∧∀(j:Nat) (v:V),ys.flatten[j]?=some v→v.plain=true∧∃y,l[j]?=some y∧fa h m v y
 |[],l,hr=>by
  have:=hr.len;simp at this;subst this;simp
 |r::ys,l,hr=>by
  have hl:=hr.len;simp only[wB,nU]at hl;have qR:=hr.row 0 r rfl;have ht:jB h m n ys (l.drop n):=⟨by simp[hl],fun i row hi=>hr.row (i+1) row (by simpa using hi),fun i row j v hi hj=>by
   obtain⟨p,y,q,s⟩:=hr.cell (i+1) row j v (by simpa using hi) hj
   refine⟨p,y,?_,s⟩;rw[nT,← q,nU];congr 1;omega⟩
  obtain⟨h1,h2⟩:=xR ht;refine⟨by simp only[sV,po,h1,ES,qR];omega,fun j v hv=>?_⟩
  rw[sV,pj]at hv;split at hv
  ·obtain⟨p,y,q,s⟩:=hr.cell 0 r j v rfl hv
   exact⟨p,y,by simpa using q,s⟩
  ·rename_i bB
   obtain⟨p,y,q,s⟩:=h2 _ v hv;refine⟨p,y,?_,s⟩;rw[nT,qR]at q;rw[←q];congr 1;omega
theorem R.grown(hR:R E g S a w){i:Nat}{cs ws:List V}{l:List Value}{c:Array Value}{e:TypeId}(ho:look i S.aW=some cs)(hh:w.heap[g.κ i]?=some (.cells c e (0,0)))(fu:cs.length+l.length≤c.size)
  (hw:∀(j:Nat) (v:V),ws[j]?=some v→v.plain=true∧∃y,l[j]?=some y∧fa w.heap g.m v y) (hlen:ws.length=l.length) (cf:g.cp i≠0) :
  R E g { S with aW:=(i,cs++ws)::S.aW } a (w.setRow (g.κ i) (c.toList.take cs.length++l++c.toList.drop (cs.length+l.length)).toArray) ∧
    ∀v x,aZ (S.cx g w) v x→aZ (S.cx g (w.setRow (g.κ i) (c.toList.take cs.length++l++c.toList.drop (cs.length+l.length)).toArray)) v x:=by
 obtain⟨cj,fU,hm,c0,e0,wR,fJ,hj⟩:=(hR.aW i cs ho).resolve_left (fun h=>cf h.2);rw[hh]at wR;cases wR;have ku:=setRow_heap w _ c (c.toList.take cs.length++l++c.toList.drop (cs.length+l.length)).toArray e _ hh;have tt:=CV (c':=(c.toList.take cs.length++l++c.toList.drop (cs.length+l.length)).toArray) (S:=S) (w:=w) hm (.inl fU) (fun _ _ e=>by rw[cj]at e;cases e) hR
 have hk:∀k,iM (S.cx g w) ⟨(w.setRow (g.κ i) (c.toList.take cs.length++l++c.toList.drop (cs.length+l.length)).toArray).heap,g,S.ay.length,S.bf⟩ k:=fun k=>tt.keeps hR (fun e=>by cases e) (fun e=>by cases e) (fun _ e=>by rw[cj]at e;cases e)
 refine⟨R.nB tt hR rfl rfl (fun k=>.inl (hk k)) (fun s v hs=>.inl hs) (fun k dQ hi=>?_) (fun f k b hf hb=>.inl ⟨(fun e=>by cases e),fun _ e=>by rw[cj]at e;cases e⟩)
  (fun k o hi=>.inl ⟨hi,fun _=>⟨fun e=>(by rw[cj]at e;cases e),fun _ e=>(by rw[cj]at e;cases e)⟩⟩),fun v x hx=>hx.mono tt.le fun k=>.inl (hk k)⟩
 have hi:look k ((i,cs++ws)::S.aW)=some dQ:=hi;rw[dj]at hi;by_cases jL:i=k
 ·subst jL
  rw[aP rfl]at hi;cases hi;refine .inr ⟨cj,fU,hm,_,e,ku,(by rw[CU (by omega)];exact fJ),fun j u hu=>?_⟩
  rw[zU (by omega) j]
  rw[pj]at hu;split at hu
  ·rename_i bB
   rw[aA (by omega)]
   obtain⟨q1,z,q2,q3⟩:=hj j u hu;exact⟨q1,z,q2,q3.mono tt.le (fun i=>.inl (hk i))⟩
  ·rename_i bB
   have:=eJ hu;rw[aP (by omega)]
   obtain⟨q1,y,q2,q3⟩:=hw _ u hu;refine⟨?_,y,q2,?_⟩
   ·cases u<;>simp_all[V.plain,V.cI]
   ·have hx:aZ (S.cx g w) u y:=.plain q3 (fun f n es he=>by subst he;simp[V.plain]at q1)
    exact hx.mono tt.le (fun i=>.inl (hk i))
 ·rw[aA jL]at hi
  exact .inl ⟨hi,(fun e=>by cases e),fun _ e=>jL (by rw[cj]at e;cases e;rfl)⟩
theorem aeE{o:Oper}{t e:TypeId}{nw src:Nat}{oy:Option Nat}{sh:Sh}{p q:Operand}{x y:bp}{C:br}(ho:o.op=.call ⟨.builtin .append,#[p,q],#[t,t]⟩)(ht:P.underlying t=some (.slice e))(he:Tl P e sh.length)
  (hp:bO p x=true) (hq:bO q y=true) (hn:S.eM nw) (hR:R E g S a w) (hd:∀d,o.dst=some d→d<E.nt)
  (ah:VO.run C o.dst S (.sZ nw src oy sh x y)=some S'):cd P E o S S' a w:=by
 obtain⟨⟨i,z,hi,hz,ec,oe,r8⟩,gR⟩:=he;have fh:∀w,(execOp a.eval o).run P w=((Builtin.append_ #[t,t] o.type #[a.eval p,a.eval q]).run P w).andThen fun v w=>.ok (.value v) w:=fun w=>by
  simp[execOp,ho,resolve,invoke,builtin]
 have Ox:∀{v:V} {y:Value},v.plain=true→fa w.heap g.m v y→v.cI=true∧(∀d,v.ch d=false)∧aZ (S.cx g w) v y:=fun {v y} h1 h2=>by
  refine⟨?_,fun d=>s9 ?_,.plain h2 (fun f n es he=>by subst he;simp[V.plain]at h1)⟩
  ·cases v<;>simp_all[V.plain,V.cI]
  ·cases v<;>simp_all[V.plain,V.cA]
   rename_i t _ _;cases t<;>simp_all[V.plain,V.cA]
 have start:∀{b u:V},kX (a.eval p)→aZ (S.cx g w) u (a.eval p)→S.ev y=some b→(match S.ny oy sh b with
   |some ys=>bif ys.isEmpty then some (S.put o.dst u) else
     bif Nat.ble ys.length lim then some ({ S with aW:=(nw,ys.flatten)::S.aW }.put o.dst (.bP nw sh.length ys.length)) else none
   |none=>none)=some S'→cd P E o S S' a w:=fun {b u} h0 hu hy ah=>by
  split at ah
  ·rename_i ys jK
   have fV:=MI hR (cS hR hq hy) jK;cases DE:ys.isEmpty with
   |true =>
    simp only[DE,bC]at ah;cases ah;have:ys=[]:=Iy.1 DE;subst this;obtain⟨base,cap,e1,_⟩:=Fs fV;refine cd.value (x:=a.eval p) (w':=w) (g':=g) ?_ (hR.put hd hu);rw[fh,e1];simp only[sX];rcases h0 with h0 | ⟨a0,h0⟩
    ·rw[h0,zR ht hi none 0 0 (bR _) base cap]
     rfl
    ·rw[h0,zR ht hi (some a0) 0 0 (bR _) base cap]
     rfl
   |false =>
    simp only[DE,eV]at ah;have cf:ys≠[]:=fun e=>by simp[e]at DE
    cases hle:Nat.ble ys.length lim with
    |false=>simp[hle]at ah
    |true =>
     simp only[hle,bC]at ah;cases ah;have hle:=iD hle;rcases fV with⟨rfl,_⟩ | ⟨b,off,cap,l,hy,en,hc,hl⟩
     ·exact absurd rfl cf
     ·have hlen:0<ys.length:=AU.2 cf
      have kK:=hl.len;have hr:=ML (P:=P) (ty:=o.type) (w:=w) ht hi hz h0 (b:=⟨b,off,none⟩) (n:=ys.length) (cap:=cap) (l:=l) (by rw[ec];exact kK) (fun j v hj=>by rw[jX,cell?_eq];exact hc j v hj) hlen (by unfold lim at hle;omega) (jT (Mv hle r8) (by decide))
      have Fv:l.length+(grownCap w ys.length 0 e-ys.length)*z.cells.size=grownCap w ys.length 0 e*sh.length:=by
       rw[kK,oe,← px];congr 1;have:=@grownCap_le w ys.length 0 e;omega
      obtain⟨f1,f2⟩:=xR hl;obtain⟨g',r1,r2,r3⟩:=hR.newObj (w':=w.drew.alloc (.cells (l.toArray++Builtin.zeroCells z.cells (grownCap w ys.length 0 e-ys.length)) e)) hn rfl rfl rfl rfl (cs:=ys.flatten)
       (cpn:=grownCap w ys.length 0 e*sh.length) (hcpn:=by simp only[ED,Fu,CK];omega) (fun j v hj=>by
        obtain⟨q1,y,q2,q3⟩:=f2 j v hj;obtain⟨p1,p2,p3⟩:=Ox q1 q3;exact⟨p1,p2 _,y,by rw[y8 (by have:=eJ q2;simpa using this)];simpa using q2,p3⟩)
      refine cd.value (x:=.slice (some ⟨w.heap.size,0,none⟩) ys.length (grownCap w ys.length 0 e)) (g':=g') (w':=w.drew.alloc (.cells (l.toArray++Builtin.zeroCells z.cells (grownCap w ys.length 0 e-ys.length)) e)) ?_ (r1.put hd ?_)
      ·rw[fh,hy,hr];rfl
      ·rw[←r2];exact .bP nw _ _ _ grownCap_le r3.symm
  ·cases ah
 simp only[VO.run]at ah;split at ah
 ·rename_i v hx hy
  exact start (.inl (nY (cS hR hp hx))) (cS hR hp hx) hy ah
 ·rename_i n v hx hy
  exact start (ta (cS hR hp hx)) (cS hR hp hx) hy ah
 ·rename_i id s ln v hx hy
  split at ah
  ·rename_i ys cs jK ff
   cases hc:((id==src)&&(s==sh.length)&&(cs.length==ln*s)&&Nat.ble (ln+ys.length) lim) with
   |false=>simp[hc]at ah
   |true =>
    simp only[hc,bC]at ah;cases ah;simp only[bQ,dO]at hc;obtain⟨⟨⟨rfl,rfl⟩,dg⟩,hle⟩:=hc;have hle:=iD hle;have fV:=MI hR (cS hR hq hy) jK;have qf:=cS hR hp hx;by_cases JW:g.cp id=0
    ·have Bc:ln=0∧kX (a.eval p):=by
      rcases qa qf with⟨cap,h1,h2,e1⟩ | ⟨h1,h2,_⟩
      ·have h2:cap*sh.length=0:=h2.trans JW
       have vr:cap=0:=by rcases II.1 h2 with h|h<;>omega
       subst vr;have oi:ln=0:=by omega
       exact⟨oi,.inr ⟨_,by rw[e1,oi]⟩⟩
      ·exact⟨h1,h2⟩
     obtain⟨rfl,sb⟩:=Bc;have agC:cs=[]:=bW.1 (by simpa using dg)
     subst agC;simp only[CI,jz]at hle ⊢;by_cases cf:ys=[]
     ·subst cf
      obtain⟨base,qM,e1,_⟩:=Fs fV;obtain⟨g',r1,r2,_⟩:=hR.F2 hn ff;simp only[List.flatten_nil,sX];refine cd.value (x:=a.eval p) (g':=g') (w':=w) ?_ (r1.put hd (r2 _ _ _ qf));rw[fh,e1];rcases sb with e2 | ⟨ad,e2⟩
      ·rw[e2,sX,zR ht hi none 0 0 (bR _) base qM];rfl
      ·rw[e2,sX,zR ht hi (some ad) 0 0 (bR _) base qM];rfl
     ·rcases fV with⟨rfl,_⟩ | ⟨b,off,cap,l,hy,en,hc,hl⟩
      ·exact absurd rfl cf
      ·have hlen:0<ys.length:=AU.2 cf
       have kK:=hl.len;have hr:=ML (P:=P) (ty:=o.type) (w:=w) ht hi hz sb (b:=⟨b,off,none⟩) (n:=ys.length) (cap:=cap) (l:=l) (by rw[ec];exact kK) (fun j v hj=>by rw[jX,cell?_eq];exact hc j v hj) hlen (by unfold lim at hle;omega) (jT (Mv hle r8) (by decide))
       have Fv:l.length+(grownCap w ys.length 0 e-ys.length)*z.cells.size=grownCap w ys.length 0 e*sh.length:=by
        rw[kK,oe,← px];congr 1;have:=@grownCap_le w ys.length 0 e;omega
       obtain⟨f1,f2⟩:=xR hl;have xF:({ S with aW:=S.aW.filter fun p => !(p.1==id) }:St).eM nw:=by
        refine⟨hn.env,fun k dQ hk=>?_,?_,hn.tok⟩
        ·rw[tm]at hk
         split at hk
         ·cases hk
         ·exact hn.aW k dQ hk
        ·rw[tm]
         split
         ·rfl
         ·exact hn.obj
       obtain⟨g',r1,r2,r3⟩:=(hR.drop id).newObj (w':=w.drew.alloc (.cells (l.toArray++Builtin.zeroCells z.cells (grownCap w ys.length 0 e-ys.length)) e)) xF rfl rfl rfl rfl (cs:=ys.flatten)
        (cpn:=grownCap w ys.length 0 e*sh.length) (hcpn:=by simp only[ED,Fu,CK];omega) (fun j v hj=>by
         obtain⟨q1,y,q2,q3⟩:=f2 j v hj;obtain⟨p1,p2,p3⟩:=Ox q1 q3;exact⟨p1,p2 _,y,by rw[y8 (by have:=eJ q2;simpa using this)];simpa using q2,p3⟩)
       refine cd.value (x:=.slice (some ⟨w.heap.size,0,none⟩) ys.length (grownCap w ys.length 0 e)) (g':=g') (w':=w.drew.alloc (.cells (l.toArray++Builtin.zeroCells z.cells (grownCap w ys.length 0 e-ys.length)) e)) ?_ (r1.put hd ?_)
       ·rw[fh,hy,hr];rfl
       ·rw[←r2];exact .bP nw _ _ _ grownCap_le r3.symm
    obtain⟨cj,fU,hm,c,et,hh,fJ,hj⟩:=(hR.aW id cs ff).resolve_left (fun h=>JW h.2);obtain⟨cap,en,Oy,hex⟩:=(qa qf).resolve_right (fun h=>JW h.2.2);have Oy:cap*sh.length=g.cp id:=Oy;have hex:a.eval p=.slice (some ⟨g.κ id,0,none⟩) ln cap:=hex;have hc:cs.length≤c.size:=by
     rcases cF c.size cs.length with h|h
     ·obtain⟨_,y,hy,_⟩:=hj c.size cs[c.size] (gG h)
      simp at hy
     ·exact h
    have fu:cap*sh.length≤c.size:=by omega
    by_cases cf:ys=[]
    ·subst cf
     obtain⟨base,qM,e1,_⟩:=Fs fV;obtain⟨g',r1,r2,_⟩:=hR.F2 hn ff;simp only[List.flatten_nil,EO,sX,wE];refine cd.value (x:=a.eval p) (g':=g') (w':=w) ?_ (r1.put hd (r2 _ _ _ qf));rw[fh,e1,hex];simp only[sX];rw[zR ht hi _ ln cap en base qM];rfl
    ·rcases fV with⟨rfl,_⟩ | ⟨b',off',qM,l,xG,hcap',wL,hl⟩
     ·exact absurd rfl cf
     ·have hlen:0<ys.length:=AU.2 cf
      have kK:=hl.len;obtain⟨f1,f2⟩:=xR hl;have Fx:∀(j:Nat) (v:Value),l[j]?=some v→w.cell? ((⟨b',off',none⟩:Addr).add j)=some v:=fun j v hj=>by rw[jX,cell?_eq];exact wL j v hj
      by_cases CT:ln+ys.length≤cap
      ·have h2:(ln+ys.length)*sh.length≤cap*sh.length:=rI _ CT
       rw[px]at h2;have hr:=run_append_room (P:=P) (ty:=o.type) ht hi (l:=l) (by rw[ec];exact kK) Fx CT (cap:=qM) hh (off:=0) (by rw[ec];omega) hl.Ba
       rw[ec,jz,← dg]at hr;obtain⟨r1,r2⟩:=hR.grown ff hh (by omega) f2 f1 JW
       have xF:({ S with aW:=(id,cs++ys.flatten)::S.aW }:St).eM nw:=by
        refine⟨hn.env,fun k dQ hk=>?_,?_,hn.tok⟩
        ·rw[dj]at hk
         split at hk
         ·cases hk
          intro u hu;rcases qA.1 hu with h|h
          ·exact hn.aW id cs ff u h
          ·obtain⟨j,uk⟩:=qB.1 h
           obtain⟨q1,_⟩:=f2 j u uk;exact Ns q1
         ·exact hn.aW k dQ hk
        ·rw[dj,aA (fun e=>by subst e;rw[hn.obj]at ff;cases ff)];exact hn.obj
       obtain⟨g',r3,r4,_⟩:=r1.F2 xF (i:=id) (cs:=cs++ys.flatten) (by rw[dj,aP rfl])
       have r5:R E g' { S with aW:=(nw,cs++ys.flatten)::S.aW.filter fun p => !(p.1==id) } a (w.setRow (g.κ id) (c.toList.take cs.length++l++c.toList.drop (cs.length+l.length)).toArray):=by
        have:(((id,cs++ys.flatten)::S.aW).filter fun p => !(p.1==id))=S.aW.filter fun p => !(p.1==id):=by simp[List.filter]
        rw[←this];exact r3
       refine cd.value (x:=.slice (some ⟨g.κ id,0,none⟩) (ln+ys.length) cap) (g':=g') (w':=w.setRow (g.κ id) (c.toList.take cs.length++l++c.toList.drop (cs.length+l.length)).toArray) ?_ (r5.put hd (r4 _ _ _ ?_))
       ·rw[fh,hex,xG,hr];rfl
       ·exact .bP id _ _ cap CT Oy
      ·have MN:(ln+ys.length)*i.bytes≤140737488355328:=jT (Mv hle r8) (by decide)
       have oi:(c.toList.take cs.length).length=ln*i.size:=by rw[ec,← dg];simp;omega
       have hr:=run_append_grow (P:=P) w t o.type e i z ht hi hz ⟨g.κ id,0,none⟩ ln cap (c.toList.take cs.length) oi (fun j v hj=>by
         rw[jX,cell?_eq,kr hh,jz];rw[kn]at hj;split at hj
         ·simpa using hj
         ·cases hj)
        ⟨b',off',none⟩ ys.length qM l (by rw[ec];exact kK) Fx (by omega) (by unfold lim at hle;omega) (growslice_fits (by omega) MN)
       have Br:(c.toList.take cs.length).length=cs.length:=by simp;omega
       have Fv:cs.length+l.length+(grownCap w (ln+ys.length) cap e-(ln+ys.length))*z.cells.size=grownCap w (ln+ys.length) cap e*sh.length:=by
        rw[dg,kK,oe,← px,← px];congr 1;have:=@grownCap_le w (ln+ys.length) cap e;omega
       have xF:({ S with aW:=S.aW.filter fun p => !(p.1==id) }:St).eM nw:=by
        refine⟨hn.env,fun k dQ hk=>?_,?_,hn.tok⟩
        ·rw[tm]at hk
         split at hk
         ·cases hk
         ·exact hn.aW k dQ hk
        ·rw[tm]
         split
         ·rfl
         ·exact hn.obj
       obtain⟨g',r1,r2,r3⟩:=(hR.drop id).newObj (w':=w.drew.alloc (.cells ((c.toList.take cs.length).toArray++l.toArray++Builtin.zeroCells z.cells (grownCap w (ln+ys.length) cap e-(ln+ys.length))) e)) xF rfl rfl rfl rfl
        (cs:=cs++ys.flatten) (cpn:=grownCap w (ln+ys.length) cap e*sh.length) (hcpn:=by simp only[ED,Fu,CK];omega) (fun j v qP=>by
         rw[pj]at qP;split at qP
         ·rename_i bB
          obtain⟨q1,y,q2,q3⟩:=hj j v qP;refine⟨q1,s9 (hn.aW id cs ff v (gH qP)),y,?_,q3⟩;rw[y8 (by simp;omega),y8 (by simp;omega)]
          simp only[CG,kn,bB,if_true];simpa using q2
         ·rename_i bB
          obtain⟨q1,y,q2,q3⟩:=f2 _ v qP;obtain⟨p1,p2,p3⟩:=Ox q1 q3;have:=eJ q2;refine⟨p1,p2 _,y,?_,p3⟩;rw[y8 (by simp;omega),Array.getElem?_append_right (by simp;omega)]
          simp only[CK,Br];simpa using q2)
       refine cd.value (x:=.slice (some ⟨w.heap.size,0,none⟩) (ln+ys.length) (grownCap w (ln+ys.length) cap e)) (g':=g')
        (w':=w.drew.alloc (.cells ((c.toList.take cs.length).toArray++l.toArray++Builtin.zeroCells z.cells (grownCap w (ln+ys.length) cap e-(ln+ys.length))) e)) ?_ (r1.put hd ?_)
       ·rw[fh,hex,xG,hr];rfl
       ·rw[←r2];exact .bP nw _ _ _ grownCap_le r3.symm
  ·cases ah
 ·cases ah
end
end Go.Vm
