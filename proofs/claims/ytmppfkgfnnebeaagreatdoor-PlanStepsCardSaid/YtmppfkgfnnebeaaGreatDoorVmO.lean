/- The value machine, 9b: local objects that grow. -/
import Derived.Test.YtmppfkgfnnebeaaGreatDoorVm9
namespace Go.Vm
set_option linter.all false
section
variable {P:Program} {E:Entry} {g g':Gh} {S S':St} {a:Act} {w w':World}
theorem uz{α:Type}{s d:Nat}:∀{l:List (Nat×α)},look s (l.filter fun p => !(p.1==d))=if s=d then none else look s l
 |[]=>by simp[look]
 |(k,v)::l=>by
  have ih:=uz (s:=s) (d:=d) (l:=l);cases h:k==d with
  |true =>
   have:=eq_of_beq h;subst this;simp only[List.filter,h,Oj];rw[ih,dz];by_cases hs:s=k
   ·simp[hs]
   ·rw[ay hs,ay hs,ay (fun e=>hs e.symm)]
  |false =>
   simp only[List.filter,h,Oi];rw[dz,dz,ih];by_cases hk:k=s
   ·subst hk
    have:k≠d:=by simpa using h
    simp[this]
   ·rw[ay hk,ay hk]
theorem PH{v:V}{d:Nat}(h:v.plain=true):v.cA d=false:=by
 cases v<;>simp_all[V.plain,V.cA];rename_i t _ _;cases t<;>simp_all[V.plain,V.cA]
theorem R.drop(hR:R E g S a w)(d:Nat):R E g { S with aW:=S.aW.filter fun p => !(p.1==d) } a w :=
 ⟨hR.env,fun id cs ho=>by
  have ho:look id (S.aW.filter fun p => !(p.1==d))=some cs:=ho;rw[uz]at ho;split at ho
  ·cases ho
  ·exact hR.aW id cs ho,hR.bj,hR.aA,hR.defers,hR.js,hR.same⟩
theorem R.Ln(hR:R E g S a w){id:Nat}(hn:S.eN id)(k:Nat):∃g',R E g' { S with aW:=(id,[])::S.aW } a w∧g'.κ id=k∧g'.cp id=0∧(∀v x,bb (S.cx g w) v x→v.cq id=false→bb (S.cx g' w) v x)∧∀j,j≠id→g'.κ j=g.κ j∧g'.cp j=g.cp j:=by
 let g':Gh:={ g with κ:=c6 g.κ id k,cp:=c6 g.cp id 0 }
 have t:Touch E g S w g' S.bj S.aA.length w w.heap.size (some id) none :=
  {os:=rfl,tape:=rfl,output:=rfl,size:=bV _,heap:=fun _ _ _=>rfl,m:=fun _ _=>rfl,ow:=fun _ _=>rfl,κ:=fun i hi=>fY _ _ (fun e=>hi (by rw[e])),cp:=fun i hi=>fY _ _ (fun e=>hi (by rw[e])),
   τ:=fun _ _=>rfl,T:=fun _ _=>rfl,γ:=fun _ _=>rfl,eK:=bV _,
   γnew:=fun i a b=>absurd a (by omega),fresh:=.inl hR.same.size,iq:=fun _ _ h _=>absurd hR.same.size (Ct h),lv:=fun i h=>hR.Er h (bV _),kb:=fun _ _ _ hy=>hy,qn:=fun h=>absurd h (gU _) }
 have lP:∀i,jg (S.cx g w) ⟨w.heap,g',S.aA.length,S.bj⟩ i∨i=id:=fun i=>by
  by_cases hi:i=id
  ·exact .inr hi
  ·exact .inl (t.keeps hR (fun e=>hi (by cases e;rfl)) (fun e=>by cases e) (fun h=>absurd h (gU _)))
 have r1:R E g' S a w:=R.oA t hR rfl rfl (fun i=>(lP i).imp (fun z=>z) fun e=>by rw[e];exact hn) (fun s v hs=>.inl hs) (fun i cs ho=>.inl ⟨ho,(fun e=>by cases e;rw[hn.obj]at ho;cases ho),fun h=>absurd h (gU _)⟩)
  (fun i k b hi hb=>.inl ⟨(fun e=>by cases e),fun h=>absurd h (gU _)⟩) (fun i o ho=>.inl ⟨ho,fun h=>absurd h (gU _)⟩)
 refine⟨g',⟨r1.env,fun i cs hi=>?_,r1.bj,r1.aA,r1.defers,r1.js,r1.same⟩,dL _ _ _,dL _ _ _,fun v x hx hv=>hx.mono t.le fun i=>(lP i).imp (fun z=>z) fun e=>by rw[e];exact hv,fun _ h=>⟨fY _ _ h,fY _ _ h⟩⟩
 have hi:look i ((id,[])::S.aW)=some cs:=hi;rw[dz]at hi;by_cases jH:id=i
 ·subst jH
  rw[aM rfl]at hi;cases hi;exact .inl ⟨rfl,dL _ _ _⟩
 ·rw[ay jH]at hi
  exact r1.aW i cs hi
theorem R.HX(hR:R E g S a w){i b:Nat}{cs:List V}(hn:S.eN b)(ho:look i S.aW=some cs) :
  ∃g',R E g' { S with aW:=(b,cs)::S.aW.filter fun p => !(p.1==i) } a w∧(∀s n x,bb (S.cx g w) (.bR i s n) x→bb (S.cx g' w) (.bR b s n) x) ∧
   (∀v x,bb (S.cx g w) v x→v.cq b=false→bb (S.cx g' w) v x)∧∀s n x,bb (S.cx g' w) (.bR i s n) x→bb (S.cx g' w) (.bR b s n) x:=by
 have lr:∀{g':Gh},g'.κ b=g'.κ i→g'.cp b=g'.cp i→∀s n x,bb (S.cx g' w) (.bR i s n) x→bb (S.cx g' w) (.bR b s n) x:=fun {g'} h1 h2 s n x hx=>by
  rcases qR hx with⟨cap,h3,h4,rfl⟩ | ⟨rfl,hz,h0⟩
  ·have e1:(S.cx g' w).g.κ i=(S.cx g' w).g.κ b:=h1.symm
   rw[e1];exact .bR b s n cap h3 (h4.trans h2.symm)
  ·exact .qP _ _ hz (h2.trans h0)
 have Im:i≠b:=fun h=>by subst h;rw[hn.obj]at ho;cases ho
 rcases hR.aW i cs ho with⟨h0,wW⟩ | ⟨cr,fZ,hm,c,e,hh,fU,hj⟩
 ·subst h0
  obtain⟨g',r1,r2,r3,r4,r5⟩:=(hR.drop i).Ln (id:=b) ⟨hn.env,fun k cs hk=>by
   have hk:look k (S.aW.filter fun p => !(p.1==i))=some cs:=hk;rw[uz]at hk;split at hk
   ·cases hk
   ·exact hn.aW k cs hk,by show look b (S.aW.filter fun p => !(p.1==i))=none;rw[uz,ay (fun e=>Im e.symm)];exact hn.obj,hn.tok⟩ (g.κ i)
  refine⟨g',r1,fun s n x hx=>?_,fun v x hx hv=>r4 v x hx hv,lr (by rw[r2,(r5 i Im).1]) (by rw[r3,(r5 i Im).2,wW])⟩
  rcases qR hx with⟨cap,h1,h2,rfl⟩ | ⟨rfl,hz,_⟩
  ·have e1:(S.cx g w).g.κ i=(S.cx g' w).g.κ b:=r2.symm
   rw[e1];exact .bR b s n cap h1 ((h2.trans wW).trans r3.symm)
  ·exact .qP _ _ hz r3
 let g':Gh:={ g with κ:=c6 g.κ b (g.κ i),cp:=c6 g.cp b (g.cp i),ow:=c6 g.ow (g.κ i) (.obj b) }
 have bE:g.κ i<w.heap.size:=by
  rcases cF (g.κ i) w.heap.size with h|h
  ·exact h
  ·simp[mF h]at hh
 have t:Touch E g S w g' S.bj S.aA.length w (g.κ i) (some b) none :=
  {os:=rfl,tape:=rfl,output:=rfl,size:=bV _,heap:=fun _ _ _=>rfl,m:=fun _ _=>rfl,ow:=fun k hk=>fY _ _ hk,κ:=fun k hk=>fY _ _ (fun e=>hk (by rw[e])),
   cp:=fun k hk=>fY _ _ (fun e=>hk (by rw[e])),τ:=fun _ _=>rfl,T:=fun _ _=>rfl,
   γ:=fun _ _=>rfl,eK:=bV _,γnew:=fun k h1 h2=>absurd h1 (by omega),fresh:=.inl fZ,iq:=fun p q _ e=>by(have e:c6 g.ow (g.κ i) (.obj b) (g.κ i)=.cell p q:=e);rw[dL]at e;exact nomatch e
   lv:=fun k e=>by(have e:c6 g.ow (g.κ i) (.obj b) (g.κ i)=.aA k:=e);rw[dL]at e;exact nomatch e
   kb:=fun _ _ _ h=>h,qn:=fun _=>bV _ }
 have hk:∀k,jg (S.cx g w) ⟨w.heap,g',S.aA.length,S.bj⟩ k∨k=b:=fun k=>by
  by_cases h:k=b
  ·exact .inr h
  ·exact .inl (t.keeps hR (fun e=>h (by cases e;rfl)) (fun e=>by cases e) (fun _ e=>by rw[cr]at e;cases e))
 refine⟨g',R.oA t hR rfl rfl (fun k=>(hk k).imp (fun z=>z) fun e=>by rw[e];exact hn) (fun s v hs=>.inl hs) (fun k dS hi=>?_) (fun f k q hf hq=>.inl ⟨(fun e=>by cases e),fun _ e=>by rw[cr]at e;cases e⟩)
  (fun k o hi=>.inl ⟨hi,fun _=>⟨fun e=>(by rw[cr]at e;cases e),fun _ e=>(by rw[cr]at e;cases e)⟩⟩),fun s n x hx=>?_,fun v x hx hv=>hx.mono t.le fun k=>(hk k).imp (fun z=>z) fun e=>by rw[e];exact hv,lr (by show c6 _ _ _ _=c6 _ _ _ _;rw[dL,fY _ _ Im]) (by show c6 _ _ _ _=c6 _ _ _ _;rw[dL,fY _ _ Im])⟩
 ·have hi:look k ((b,cs)::S.aW.filter fun p => !(p.1==i))=some dS:=hi
  rw[dz]at hi;by_cases QH:b=k
  ·subst QH
   rw[aM rfl]at hi;cases hi;refine .inr ⟨?_,?_,?_,c,e,?_,?_,fun j v hv=>?_⟩
   ·show c6 g.ow _ _ (c6 g.κ _ _ _)=_;rw[dL,dL]
   ·show _≤c6 g.κ _ _ _;rw[dL];exact fZ
   ·show g.m (c6 g.κ _ _ _)=_;rw[dL];exact hm
   ·show w.heap[c6 g.κ _ _ _]?=_;rw[dL];exact hh
   ·show c6 g.cp _ _ _≤_;rw[dL];exact fU
   ·obtain⟨q1,y,q2,q3⟩:=hj j v hv
    exact⟨q1,y,q2,q3.mono t.le fun k=>(hk k).imp (fun z=>z) fun e=>by rw[e];exact uj (hn.aW i cs ho v (fW hv))⟩
  ·rw[ay QH,uz]at hi
   split at hi
   ·cases hi
   ·rename_i E2
    exact .inl ⟨hi,(fun e=>QH (by cases e;rfl)),fun _ e=>E2 (by rw[cr]at e;cases e;rfl)⟩
 ·rcases qR hx with⟨cap,h,hc,rfl⟩ | ⟨rfl,hz,h0⟩
  ·have e1:(S.cx g w).g.κ i=(S.cx g' w).g.κ b:=(dL g.κ b (g.κ i)).symm
   rw[e1];exact .bR b s n cap h (hc.trans (dL g.cp b (g.cp i)).symm)
  ·exact .qP _ _ hz ((dL g.cp b (g.cp i)).trans h0)
theorem zQ{h:Array Obj}{m:Nat→Nat}{n:Nat}:∀{ys:List (List V)} {l:List Value},jX h m n ys l→ys.flatten.length=l.length∧∀(j:Nat) (v:V),ys.flatten[j]?=some v→v.plain=true∧∃y,l[j]?=some y∧fg h m v y
 |[],l,hr=>by
  have:=hr.len;simp at this;subst this;simp
 |r::ys,l,hr=>by
  have hl:=hr.len;simp only[u4,oS]at hl;have sE:=hr.row 0 r rfl;have ht:jX h m n ys (l.drop n):=⟨by simp[hl],fun i row hi=>hr.row (i+1) row (by simpa using hi),fun i row j v hi hj=>by
   obtain⟨p,y,q,s⟩:=hr.cell (i+1) row j v (by simpa using hi) hj
   refine⟨p,y,?_,s⟩;rw[mn,← q,oS];congr 1;omega⟩
  obtain⟨h1,h2⟩:=zQ ht;refine⟨by simp only[ue,m9,h1,OC,sE];omega,fun j v hv=>?_⟩
  rw[ue,oQ]at hv;split at hv
  ·obtain⟨p,y,q,s⟩:=hr.cell 0 r j v rfl hv
   exact⟨p,y,by simpa using q,s⟩
  ·rename_i bE
   obtain⟨p,y,q,s⟩:=h2 _ v hv;refine⟨p,y,?_,s⟩;rw[mn,sE]at q;rw[←q];congr 1;omega
theorem R.grown(hR:R E g S a w){i:Nat}{cs ws:List V}{l:List Value}{c:Array Value}{e:TypeId}(ho:look i S.aW=some cs)(hh:w.heap[g.κ i]?=some (.cells c e (0,0)))(fC:cs.length+l.length≤c.size)
  (hw:∀(j:Nat) (v:V),ws[j]?=some v→v.plain=true∧∃y,l[j]?=some y∧fg w.heap g.m v y) (hlen:ws.length=l.length) (cf:g.cp i≠0) :
  R E g { S with aW:=(i,cs++ws)::S.aW } a (w.setRow (g.κ i) (c.toList.take cs.length++l++c.toList.drop (cs.length+l.length)).toArray) ∧
    ∀v x,bb (S.cx g w) v x→bb (S.cx g (w.setRow (g.κ i) (c.toList.take cs.length++l++c.toList.drop (cs.length+l.length)).toArray)) v x:=by
 obtain⟨cr,fZ,hm,c0,e0,yB,fU,hj⟩:=(hR.aW i cs ho).resolve_left (fun h=>cf h.2);rw[hh]at yB;cases yB;have kT:=setRow_heap w _ c (c.toList.take cs.length++l++c.toList.drop (cs.length+l.length)).toArray e _ hh;have tt:=EB (c':=(c.toList.take cs.length++l++c.toList.drop (cs.length+l.length)).toArray) (S:=S) (w:=w) hm (.inl fZ) (fun _ _ e=>by rw[cr]at e;cases e) hR
 have hk:∀k,jg (S.cx g w) ⟨(w.setRow (g.κ i) (c.toList.take cs.length++l++c.toList.drop (cs.length+l.length)).toArray).heap,g,S.aA.length,S.bj⟩ k:=fun k=>tt.keeps hR (fun e=>by cases e) (fun e=>by cases e) (fun _ e=>by rw[cr]at e;cases e)
 refine⟨R.oA tt hR rfl rfl (fun k=>.inl (hk k)) (fun s v hs=>.inl hs) (fun k dS hi=>?_) (fun f k b hf hb=>.inl ⟨(fun e=>by cases e),fun _ e=>by rw[cr]at e;cases e⟩)
  (fun k o hi=>.inl ⟨hi,fun _=>⟨fun e=>(by rw[cr]at e;cases e),fun _ e=>(by rw[cr]at e;cases e)⟩⟩),fun v x hx=>hx.mono tt.le fun k=>.inl (hk k)⟩
 have hi:look k ((i,cs++ws)::S.aW)=some dS:=hi;rw[dz]at hi;by_cases kh:i=k
 ·subst kh
  rw[aM rfl]at hi;cases hi;refine .inr ⟨cr,fZ,hm,_,e,kT,(by rw[EA (by omega)];exact fU),fun j u hu=>?_⟩
  rw[Bj (by omega) j]
  rw[oQ]at hu;split at hu
  ·rename_i bE
   rw[ay (by omega)]
   obtain⟨q1,z,q2,q3⟩:=hj j u hu;exact⟨q1,z,q2,q3.mono tt.le (fun i=>.inl (hk i))⟩
  ·rename_i bE
   have:=eQ hu;rw[aM (by omega)]
   obtain⟨q1,y,q2,q3⟩:=hw _ u hu;refine⟨?_,y,q2,?_⟩
   ·cases u<;>simp_all[V.plain,V.cL]
   ·have hx:bb (S.cx g w) u y:=.plain q3 (fun f n es he=>by subst he;simp[V.plain]at q1)
    exact hx.mono tt.le (fun i=>.inl (hk i))
 ·rw[ay kh]at hi
  exact .inl ⟨hi,(fun e=>by cases e),fun _ e=>kh (by rw[cr]at e;cases e;rfl)⟩
theorem Ys{o:Oper}{t e:TypeId}{nw src:Nat}{oy:Option Nat}{sh:Sh}{p q:Operand}{x y:bw}{C:bD}(ho:o.op=.call ⟨.builtin .append,#[p,q],#[t,t]⟩)(ht:P.underlying t=some (.slice e))(he:OV P e sh.length)
  (hp:bU p x=true) (hq:bU q y=true) (hn:S.eN nw) (hR:R E g S a w) (hd:∀d,o.dst=some d→d<E.nt)
  (sH:∀id s ln cs,S.ev x=some (.bR id s ln)→look src S.aW=some cs→id=src→cs.length=ln*s)
  (hrun:VO.run C o.dst S (.tj nw src oy sh x y)=some S'):ch P E o S S' a w:=by
 obtain⟨⟨i,z,hi,hz,eg,o0,tu⟩,gy⟩:=he;have fq:∀w,(execOp a.eval o).run P w=((Builtin.append_ #[t,t] o.type #[a.eval p,a.eval q]).run P w).andThen fun v w=>.ok (.value v) w:=fun w=>by
  simp[execOp,ho,resolve,invoke,builtin]
 have QI:∀{v:V} {y:Value},v.plain=true→fg w.heap g.m v y→v.cL=true∧(∀d,v.cq d=false)∧bb (S.cx g w) v y:=fun {v y} h1 h2=>by
  refine⟨?_,fun d=>uj ?_,.plain h2 (fun f n es he=>by subst he;simp[V.plain]at h1)⟩
  ·cases v<;>simp_all[V.plain,V.cL]
  ·cases v<;>simp_all[V.plain,V.cA]
   rename_i t _ _;cases t<;>simp_all[V.plain,V.cA]
 have start:∀{b u:V},lL (a.eval p)→bb (S.cx g w) u (a.eval p)→S.ev y=some b→(match S.iR oy sh b with
   |some ys=>bif ys.isEmpty then some (S.put o.dst u) else
     bif Nat.ble ys.length lim then some ({ S with aW:=(nw,ys.flatten)::S.aW }.put o.dst (.bR nw sh.length ys.length)) else none
   |none=>none)=some S'→ch P E o S S' a w:=fun {b u} h0 hu hy hrun=>by
  split at hrun
  ·rename_i ys kg
   have gd:=Hq hR (cY hR hq hy) kg;cases Ff:ys.isEmpty with
   |true =>
    simp only[Ff,bG]at hrun;cases hrun;have:ys=[]:=Kl.1 Ff;subst this;obtain⟨base,cap,e1,_⟩:=Hr gd;refine ch.value (x:=a.eval p) (w':=w) (g':=g) ?_ (hR.put hd hu);rw[fq,e1];simp only[tc];rcases h0 with h0 | ⟨a0,h0⟩
    ·rw[h0,Bf ht hi none 0 0 (bV _) base cap]
     rfl
    ·rw[h0,Bf ht hi (some a0) 0 0 (bV _) base cap]
     rfl
   |false =>
    simp only[Ff,eD]at hrun;have cf:ys≠[]:=fun e=>by simp[e]at Ff
    cases hle:Nat.ble ys.length lim with
    |false=>simp[hle]at hrun
    |true =>
     simp only[hle,bG]at hrun;cases hrun;have hle:=il hle;rcases gd with⟨rfl,_⟩ | ⟨b,off,cap,l,hy,eo,hc,hl⟩
     ·exact absurd rfl cf
     ·have hlen:0<ys.length:=Ck.2 cf
      have lq:=hl.len;have hr:=OW (P:=P) (ty:=o.type) (w:=w) ht hi hz h0 (b:=⟨b,off,none⟩) (n:=ys.length) (cap:=cap) (l:=l) (by rw[eg];exact lq) (fun j v hj=>by rw[kB,cell?_eq];exact hc j v hj) hlen (by unfold lim at hle;omega) (iQ (Ek hle tu) (by decide))
      have Hu:l.length+(grownCap w ys.length 0 e-ys.length)*z.cells.size=grownCap w ys.length 0 e*sh.length:=by
       rw[lq,o0,← qi];congr 1;have:=@grownCap_le w ys.length 0 e;omega
      obtain⟨f1,f2⟩:=zQ hl;obtain⟨g',r1,r2,r3⟩:=hR.newObj (w':=w.drew.alloc (.cells (l.toArray++Builtin.zeroCells z.cells (grownCap w ys.length 0 e-ys.length)) e)) hn rfl rfl rfl rfl (cs:=ys.flatten)
       (cpn:=grownCap w ys.length 0 e*sh.length) (hcpn:=by simp only[GG,Ht,Ej];omega) (fun j v hj=>by
        obtain⟨q1,y,q2,q3⟩:=f2 j v hj;obtain⟨p1,p2,p3⟩:=QI q1 q3;exact⟨p1,p2 _,y,by rw[AT (by have:=eQ q2;simpa using this)];simpa using q2,p3⟩)
      refine ch.value (x:=.slice (some ⟨w.heap.size,0,none⟩) ys.length (grownCap w ys.length 0 e)) (g':=g') (w':=w.drew.alloc (.cells (l.toArray++Builtin.zeroCells z.cells (grownCap w ys.length 0 e-ys.length)) e)) ?_ (r1.put hd ?_)
      ·rw[fq,hy,hr];rfl
      ·rw[←r2];exact .bR nw _ _ _ grownCap_le r3.symm
  ·cases hrun
 simp only[VO.run]at hrun;split at hrun
 ·rename_i v hx hy
  exact start (.inl (oV (cY hR hp hx))) (cY hR hp hx) hy hrun
 ·rename_i n v hx hy
  exact start (uk (cY hR hp hx)) (cY hR hp hx) hy hrun
 ·rename_i id s ln v hx hy
  split at hrun
  ·rename_i ys cs kg eO
   cases hc:((id==src)&&(s==sh.length)&&(cs.length==ln*s)&&Nat.ble (ln+ys.length) lim) with
   |false =>
    simp only[hc,eD]at hrun;cases qv:(oy.isNone&&(id==src)&&(s==sh.length)&&Nat.ble (ln*s) cs.length&&Nat.ble (ln+ys.length) lim) with
    |false=>simp[qv]at hrun
    |true =>
     simp only[bS,dO]at qv;obtain⟨⟨⟨⟨_,h2⟩,h3⟩,_⟩,h5⟩:=qv;rw[sH id s ln cs hx eO h2,h2,h3,h5]at hc;simp at hc
   |true =>
    simp only[hc,bG]at hrun;cases hrun;simp only[bS,dO]at hc;obtain⟨⟨⟨rfl,rfl⟩,dC⟩,hle⟩:=hc;have hle:=il hle;have gd:=Hq hR (cY hR hq hy) kg;have qY:=cY hR hp hx;by_cases LS:g.cp id=0
    ·have CH:ln=0∧lL (a.eval p):=by
      rcases qR qY with⟨cap,h1,h2,e1⟩ | ⟨h1,h2,_⟩
      ·have h2:cap*sh.length=0:=h2.trans LS
       have yo:cap=0:=by rcases Ky.1 h2 with h|h<;>omega
       subst yo;have pf:ln=0:=by omega
       exact⟨pf,.inr ⟨_,by rw[e1,pf]⟩⟩
      ·exact⟨h1,h2⟩
     obtain⟨rfl,tx⟩:=CH;have akY:cs=[]:=oo.1 (by simpa using dC)
     subst akY;simp only[Eg,jV]at hle ⊢;by_cases cf:ys=[]
     ·subst cf
      obtain⟨base,sy,e1,_⟩:=Hr gd;obtain⟨g',r1,r2,_⟩:=hR.HX hn eO;simp only[List.flatten_nil,tc];refine ch.value (x:=a.eval p) (g':=g') (w':=w) ?_ (r1.put hd (r2 _ _ _ qY));rw[fq,e1];rcases tx with e2 | ⟨ad,e2⟩
      ·rw[e2,tc,Bf ht hi none 0 0 (bV _) base sy];rfl
      ·rw[e2,tc,Bf ht hi (some ad) 0 0 (bV _) base sy];rfl
     ·rcases gd with⟨rfl,_⟩ | ⟨b,off,cap,l,hy,eo,hc,hl⟩
      ·exact absurd rfl cf
      ·have hlen:0<ys.length:=Ck.2 cf
       have lq:=hl.len;have hr:=OW (P:=P) (ty:=o.type) (w:=w) ht hi hz tx (b:=⟨b,off,none⟩) (n:=ys.length) (cap:=cap) (l:=l) (by rw[eg];exact lq) (fun j v hj=>by rw[kB,cell?_eq];exact hc j v hj) hlen (by unfold lim at hle;omega) (iQ (Ek hle tu) (by decide))
       have Hu:l.length+(grownCap w ys.length 0 e-ys.length)*z.cells.size=grownCap w ys.length 0 e*sh.length:=by
        rw[lq,o0,← qi];congr 1;have:=@grownCap_le w ys.length 0 e;omega
       obtain⟨f1,f2⟩:=zQ hl;have uo:({ S with aW:=S.aW.filter fun p => !(p.1==id) }:St).eN nw:=by
        refine⟨hn.env,fun k dS hk=>?_,?_,hn.tok⟩
        ·rw[uz]at hk
         split at hk
         ·cases hk
         ·exact hn.aW k dS hk
        ·rw[uz]
         split
         ·rfl
         ·exact hn.obj
       obtain⟨g',r1,r2,r3⟩:=(hR.drop id).newObj (w':=w.drew.alloc (.cells (l.toArray++Builtin.zeroCells z.cells (grownCap w ys.length 0 e-ys.length)) e)) uo rfl rfl rfl rfl (cs:=ys.flatten)
        (cpn:=grownCap w ys.length 0 e*sh.length) (hcpn:=by simp only[GG,Ht,Ej];omega) (fun j v hj=>by
         obtain⟨q1,y,q2,q3⟩:=f2 j v hj;obtain⟨p1,p2,p3⟩:=QI q1 q3;exact⟨p1,p2 _,y,by rw[AT (by have:=eQ q2;simpa using this)];simpa using q2,p3⟩)
       refine ch.value (x:=.slice (some ⟨w.heap.size,0,none⟩) ys.length (grownCap w ys.length 0 e)) (g':=g') (w':=w.drew.alloc (.cells (l.toArray++Builtin.zeroCells z.cells (grownCap w ys.length 0 e-ys.length)) e)) ?_ (r1.put hd ?_)
       ·rw[fq,hy,hr];rfl
       ·rw[←r2];exact .bR nw _ _ _ grownCap_le r3.symm
    obtain⟨cr,fZ,hm,c,et,hh,fU,hj⟩:=(hR.aW id cs eO).resolve_left (fun h=>LS h.2);obtain⟨cap,eo,QJ,hex⟩:=(qR qY).resolve_right (fun h=>LS h.2.2);have QJ:cap*sh.length=g.cp id:=QJ;have hex:a.eval p=.slice (some ⟨g.κ id,0,none⟩) ln cap:=hex;have hc:cs.length≤c.size:=by
     rcases cF c.size cs.length with h|h
     ·obtain⟨_,y,hy,_⟩:=hj c.size cs[c.size] (fN h)
      simp at hy
     ·exact h
    have fC:cap*sh.length≤c.size:=by omega
    by_cases cf:ys=[]
    ·subst cf
     obtain⟨base,sy,e1,_⟩:=Hr gd;obtain⟨g',r1,r2,_⟩:=hR.HX hn eO;simp only[List.flatten_nil,Eb,tc,wH];refine ch.value (x:=a.eval p) (g':=g') (w':=w) ?_ (r1.put hd (r2 _ _ _ qY));rw[fq,e1,hex];simp only[tc];rw[Bf ht hi _ ln cap eo base sy];rfl
    ·rcases gd with⟨rfl,_⟩ | ⟨b',off',sy,l,wY,hcap',qV,hl⟩
     ·exact absurd rfl cf
     ·have hlen:0<ys.length:=Ck.2 cf
      have lq:=hl.len;obtain⟨f1,f2⟩:=zQ hl;have Hw:∀(j:Nat) (v:Value),l[j]?=some v→w.cell? ((⟨b',off',none⟩:Addr).add j)=some v:=fun j v hj=>by rw[kB,cell?_eq];exact qV j v hj
      by_cases Ex:ln+ys.length≤cap
      ·have h2:(ln+ys.length)*sh.length≤cap*sh.length:=tf _ Ex
       rw[qi]at h2;have hr:=run_append_room (P:=P) (ty:=o.type) ht hi (l:=l) (by rw[eg];exact lq) Hw Ex (cap:=sy) hh (off:=0) (by rw[eg];omega) hl.CF
       rw[eg,jV,← dC]at hr;obtain⟨r1,r2⟩:=hR.grown eO hh (by omega) f2 f1 LS
       have uo:({ S with aW:=(id,cs++ys.flatten)::S.aW }:St).eN nw:=by
        refine⟨hn.env,fun k dS hk=>?_,?_,hn.tok⟩
        ·rw[dz]at hk
         split at hk
         ·cases hk
          intro u hu;rcases ot.1 hu with h|h
          ·exact hn.aW id cs eO u h
          ·obtain⟨j,vC⟩:=nH.1 h
           obtain⟨q1,_⟩:=f2 j u vC;exact PH q1
         ·exact hn.aW k dS hk
        ·rw[dz,ay (fun e=>by subst e;rw[hn.obj]at eO;cases eO)];exact hn.obj
       obtain⟨g',r3,r4,_⟩:=r1.HX uo (i:=id) (cs:=cs++ys.flatten) (by rw[dz,aM rfl])
       have r5:R E g' { S with aW:=(nw,cs++ys.flatten)::S.aW.filter fun p => !(p.1==id) } a (w.setRow (g.κ id) (c.toList.take cs.length++l++c.toList.drop (cs.length+l.length)).toArray):=by
        have:(((id,cs++ys.flatten)::S.aW).filter fun p => !(p.1==id))=S.aW.filter fun p => !(p.1==id):=by simp[List.filter]
        rw[←this];exact r3
       refine ch.value (x:=.slice (some ⟨g.κ id,0,none⟩) (ln+ys.length) cap) (g':=g') (w':=w.setRow (g.κ id) (c.toList.take cs.length++l++c.toList.drop (cs.length+l.length)).toArray) ?_ (r5.put hd (r4 _ _ _ ?_))
       ·rw[fq,hex,wY,hr];rfl
       ·exact .bR id _ _ cap Ex QJ
      ·have OY:(ln+ys.length)*i.bytes≤140737488355328:=iQ (Ek hle tu) (by decide)
       have pf:(c.toList.take cs.length).length=ln*i.size:=by rw[eg,← dC];simp;omega
       have hr:=run_append_grow (P:=P) w t o.type e i z ht hi hz ⟨g.κ id,0,none⟩ ln cap (c.toList.take cs.length) pf (fun j v hj=>by
         rw[kB,cell?_eq,kR hh,jV];rw[iP]at hj;split at hj
         ·simpa using hj
         ·cases hj)
        ⟨b',off',none⟩ ys.length sy l (by rw[eg];exact lq) Hw (by omega) (by unfold lim at hle;omega) (growslice_fits (by omega) OY)
       have CS:(c.toList.take cs.length).length=cs.length:=by simp;omega
       have Hu:cs.length+l.length+(grownCap w (ln+ys.length) cap e-(ln+ys.length))*z.cells.size=grownCap w (ln+ys.length) cap e*sh.length:=by
        rw[dC,lq,o0,← qi,← qi];congr 1;have:=@grownCap_le w (ln+ys.length) cap e;omega
       have uo:({ S with aW:=S.aW.filter fun p => !(p.1==id) }:St).eN nw:=by
        refine⟨hn.env,fun k dS hk=>?_,?_,hn.tok⟩
        ·rw[uz]at hk
         split at hk
         ·cases hk
         ·exact hn.aW k dS hk
        ·rw[uz]
         split
         ·rfl
         ·exact hn.obj
       obtain⟨g',r1,r2,r3⟩:=(hR.drop id).newObj (w':=w.drew.alloc (.cells ((c.toList.take cs.length).toArray++l.toArray++Builtin.zeroCells z.cells (grownCap w (ln+ys.length) cap e-(ln+ys.length))) e)) uo rfl rfl rfl rfl
        (cs:=cs++ys.flatten) (cpn:=grownCap w (ln+ys.length) cap e*sh.length) (hcpn:=by simp only[GG,Ht,Ej];omega) (fun j v sC=>by
         rw[oQ]at sC;split at sC
         ·rename_i bE
          obtain⟨q1,y,q2,q3⟩:=hj j v sC;refine⟨q1,uj (hn.aW id cs eO v (fW sC)),y,?_,q3⟩;rw[AT (by simp;omega),AT (by simp;omega)]
          simp only[Ed,iP,bE,if_true];simpa using q2
         ·rename_i bE
          obtain⟨q1,y,q2,q3⟩:=f2 _ v sC;obtain⟨p1,p2,p3⟩:=QI q1 q3;have:=eQ q2;refine⟨p1,p2 _,y,?_,p3⟩;rw[AT (by simp;omega),Array.getElem?_append_right (by simp;omega)]
          simp only[Ej,CS];simpa using q2)
       refine ch.value (x:=.slice (some ⟨w.heap.size,0,none⟩) (ln+ys.length) (grownCap w (ln+ys.length) cap e)) (g':=g')
        (w':=w.drew.alloc (.cells ((c.toList.take cs.length).toArray++l.toArray++Builtin.zeroCells z.cells (grownCap w (ln+ys.length) cap e-(ln+ys.length))) e)) ?_ (r1.put hd ?_)
       ·rw[fq,hex,wY,hr];rfl
       ·rw[←r2];exact .bR nw _ _ _ grownCap_le r3.symm
  ·cases hrun
 ·cases hrun
theorem R.akZ(hR:R E g S a w){i n:Nat}{cs:List V}(ho:look i S.aW=some cs):R E g { S with aW:=(i,cs.take n)::S.aW } a w :=
 ⟨hR.env,fun k ds z7=>by
  have hk:look k ((i,cs.take n)::S.aW)=some ds:=z7
  clear z7
  rw[dz]at hk;split at hk
  ·rename_i e
   subst e;cases hk;rcases hR.aW i cs ho with⟨h1,h2⟩ | ⟨h1,h2,h3,c,e,h4,h5,h6⟩
   ·exact .inl ⟨by simp[h1],h2⟩
   ·refine .inr ⟨h1,h2,h3,c,e,h4,h5,fun j v hv=>h6 j v ?_⟩
    rw[iP]at hv;split at hv
    ·exact hv
    ·cases hv
  ·exact hR.aW k ds hk,hR.bj,hR.aA,hR.defers,hR.js,hR.same⟩
theorem ai2{o:Oper}{t e:TypeId}{nw src:Nat}{oy:Option Nat}{sh:Sh}{p q:Operand}{x y:bw}{C:bD}(ho:o.op=.call ⟨.builtin .append,#[p,q],#[t,t]⟩)(ht:P.underlying t=some (.slice e))(he:OV P e sh.length)
  (hp:bU p x=true) (hq:bU q y=true) (hn:S.eN nw) (hR:R E g S a w) (hd:∀d,o.dst=some d→d<E.nt)
  (hrun:VO.run C o.dst S (.tj nw src oy sh x y)=some S'):ch P E o S S' a w:=by
 by_cases sH:∀id s ln cs,S.ev x=some (.bR id s ln)→look src S.aW=some cs→id=src→cs.length=ln*s
 ·exact Ys ho ht he hp hq hn hR hd sH hrun
 ·simp only[Classical.not_forall]at sH
  obtain⟨id,s,ln,cs,hx,eO,rfl,cf⟩:=sH;cases hy:S.ev y with
  |none=>simp[VO.run,hx,hy]at hrun
  |some b =>
   simp only[VO.run,hx,hy]at hrun;cases hr:S.iR oy sh b with
   |none=>simp[hr]at hrun
   |some ys =>
    simp only[hr,eO]at hrun;have hc:((id==id)&&(s==sh.length)&&(cs.length==ln*s)&&Nat.ble (ln+ys.length) lim)=false:=by simp[cf]
    simp only[hc,eD]at hrun;cases qv:(oy.isNone&&(id==id)&&(s==sh.length)&&Nat.ble (ln*s) cs.length&&Nat.ble (ln+ys.length) lim) with
    |false=>rw[qv]at hrun;cases hrun
    |true =>
     simp only[qv,bG,Option.some.injEq]at hrun;simp only[bS,dO,Em]at qv;obtain⟨⟨⟨⟨rfl,-⟩,rfl⟩,hle⟩,hlim⟩:=qv;have hle:=il hle;have hn':({ S with aW:=(id,cs.take (ln*sh.length))::S.aW }:St).eN nw:=by
      refine⟨hn.env,fun k ds hk=>?_,?_,hn.tok⟩
      ·rw[dz]at hk
       split at hk
       ·cases hk
        exact fun v hv=>hn.aW id cs eO v (Cp hv)
       ·exact hn.aW k ds hk
      ·rw[dz,ay (fun e=>by subst e;rw[hn.obj]at eO;cases eO)];exact hn.obj
     refine Ys (S:={ S with aW:=(id,cs.take (ln*sh.length))::S.aW }) (C:=C) (oy:=none) (src:=id) ho ht he hp hq hn' (hR.akZ eO) hd (fun lU s' ln' dS h1 h2 h3=>?_) (hrun:=?_)
     ·have h1:S.ev x=some (.bR lU s' ln'):=h1
      rw[hx]at h1;cases h1;rw[dz,aM rfl]at h2;cases h2;rw[AW];omega
     ·have e1:({ S with aW:=(id,cs.take (ln*sh.length))::S.aW }:St).ev x=some (.bR id sh.length ln):=hx
      have e2:({ S with aW:=(id,cs.take (ln*sh.length))::S.aW }:St).ev y=some b:=hy;have e3:({ S with aW:=(id,cs.take (ln*sh.length))::S.aW }:St).iR none sh b=some ys:=hr;have e4:look id ((id,cs.take (ln*sh.length))::S.aW)=some (cs.take (ln*sh.length)):=by rw[dz,aM rfl]
      have e5:(cs.take (ln*sh.length)).length=ln*sh.length:=by rw[AW];omega
      have e6:((id,cs.take (ln*sh.length))::S.aW).filter (fun p => !(p.1==id))=S.aW.filter fun p => !(p.1==id):=by simp[List.filter]
      simp only[VO.run,e1,e2,e3,e4,e5,e6,hlim,beq_self_eq_true,Ce,bG];exact congrArg some hrun
end
end Go.Vm
