/- The value machine, 9b: local objects that grow. -/
import Derived.Test.YtcelmhaoipbdiaaGreatVm9
namespace Go.Vm
set_option linter.all false
section
variable {P:Program} {E:Entry} {g g':Gh} {S S':St} {a:Act} {w w':World}
theorem uO{α:Type}{s d:Nat}:∀{l:List (Nat×α)},look s (l.filter fun p => !(p.1==d))=if s=d then none else look s l
 |[]=>by simp[look]
 |(k,v)::l=>by
  have ih:=uO (s:=s) (d:=d) (l:=l);cases h:k==d with
  |true =>
   have:=eq_of_beq h;subst this;simp only[List.filter,h,Bool.not_true];rw[ih,dL];by_cases hs:s=k
   ·simp[hs]
   ·rw[av hs,av hs,av (fun e=>hs e.symm)]
  |false =>
   simp only[List.filter,h,Bool.not_false];rw[dL,dL,ih];by_cases hk:k=s
   ·subst hk
    have:k≠d:=by simpa using h
    simp[this]
   ·rw[av hk,av hk]
theorem Qx{v:V}{d:Nat}(h:v.plain=true):v.cI d=false:=by
 cases v<;>simp_all[V.plain,V.cI];rename_i t _ _;cases t<;>simp_all[V.plain,V.cI]
theorem R.drop(hR:R E g S a w)(d:Nat):R E g { S with aZ:=S.aZ.filter fun p => !(p.1==d) } a w :=
 ⟨hR.env,fun id cs ho=>by
  have ho:look id (S.aZ.filter fun p => !(p.1==d))=some cs:=ho;rw[uO]at ho;split at ho
  ·cases ho
  ·exact hR.aZ id cs ho,hR.bl,hR.aD,hR.defers,hR.kb,hR.same⟩
theorem R.LR(hR:R E g S a w){id:Nat}(hn:S.fb id)(k:Nat):∃g',R E g' { S with aZ:=(id,[])::S.aZ } a w∧g'.κ id=k∧g'.cp id=0∧(∀v x,bf (S.cx g w) v x→v.cA id=false→bf (S.cx g' w) v x)∧∀j,j≠id→g'.κ j=g.κ j∧g'.cp j=g.cp j:=by
 let g':Gh:={ g with κ:=df g.κ id k,cp:=df g.cp id 0 }
 have t:Touch E g S w g' S.bl S.aD.length w w.heap.size (some id) none :=
  {os:=rfl,tape:=rfl,output:=rfl,size:=bY _,heap:=fun _ _ _=>rfl,m:=fun _ _=>rfl,ow:=fun _ _=>rfl,κ:=fun i hi=>gC _ _ (fun e=>hi (by rw[e])),cp:=fun i hi=>gC _ _ (fun e=>hi (by rw[e])),
   τ:=fun _ _=>rfl,T:=fun _ _=>rfl,γ:=fun _ _=>rfl,eW:=bY _,
   γnew:=fun i a b=>absurd a (by omega),fresh:=.inl hR.same.size,iW:=fun _ _ h _=>absurd hR.same.size (CV h),lv:=fun i h=>hR.EU h (bY _),kN:=fun _ _ _ hy=>hy,qH:=fun h=>absurd h (iC _) }
 have mz:∀i,jB (S.cx g w) ⟨w.heap,g',S.aD.length,S.bl⟩ i∨i=id:=fun i=>by
  by_cases hi:i=id
  ·exact .inr hi
  ·exact .inl (t.keeps hR (fun e=>hi (by cases e;rfl)) (fun e=>by cases e) (fun h=>absurd h (iC _)))
 have r1:R E g' S a w:=R.oQ t hR rfl rfl (fun i=>(mz i).imp (fun z=>z) fun e=>by rw[e];exact hn) (fun s v hs=>.inl hs) (fun i cs ho=>.inl ⟨ho,(fun e=>by cases e;rw[hn.obj]at ho;cases ho),fun h=>absurd h (iC _)⟩)
  (fun i k b hi hb=>.inl ⟨(fun e=>by cases e),fun h=>absurd h (iC _)⟩) (fun i o ho=>.inl ⟨ho,fun h=>absurd h (iC _)⟩)
 refine⟨g',⟨r1.env,fun i cs hi=>?_,r1.bl,r1.aD,r1.defers,r1.kb,r1.same⟩,dS _ _ _,dS _ _ _,fun v x hx hv=>hx.mono t.le fun i=>(mz i).imp (fun z=>z) fun e=>by rw[e];exact hv,fun _ h=>⟨gC _ _ h,gC _ _ h⟩⟩
 have hi:look i ((id,[])::S.aZ)=some cs:=hi;rw[dL]at hi;by_cases ke:id=i
 ·subst ke
  rw[aK rfl]at hi;cases hi;exact .inl ⟨rfl,dS _ _ _⟩
 ·rw[av ke]at hi
  exact r1.aZ i cs hi
theorem R.Ij(hR:R E g S a w){i b:Nat}{cs:List V}(hn:S.fb b)(ho:look i S.aZ=some cs) :
  ∃g',R E g' { S with aZ:=(b,cs)::S.aZ.filter fun p => !(p.1==i) } a w∧(∀s n x,bf (S.cx g w) (.bR i s n) x→bf (S.cx g' w) (.bR b s n) x) ∧
   (∀v x,bf (S.cx g w) v x→v.cA b=false→bf (S.cx g' w) v x)∧∀s n x,bf (S.cx g' w) (.bR i s n) x→bf (S.cx g' w) (.bR b s n) x:=by
 have lr:∀{g':Gh},g'.κ b=g'.κ i→g'.cp b=g'.cp i→∀s n x,bf (S.cx g' w) (.bR i s n) x→bf (S.cx g' w) (.bR b s n) x:=fun {g'} h1 h2 s n x hx=>by
  rcases rT hx with⟨cap,h3,h4,rfl⟩ | ⟨rfl,hz,h0⟩
  ·have e1:(S.cx g' w).g.κ i=(S.cx g' w).g.κ b:=h1.symm
   rw[e1];exact .bR b s n cap h3 (h4.trans h2.symm)
  ·exact .rP _ _ hz (h2.trans h0)
 have IF:i≠b:=fun h=>by subst h;rw[hn.obj]at ho;cases ho
 rcases hR.aZ i cs ho with⟨h0,w5⟩ | ⟨cB,gN,hm,c,e,hh,fY,hj⟩
 ·subst h0
  obtain⟨g',r1,r2,r3,r4,r5⟩:=(hR.drop i).LR (id:=b) ⟨hn.env,fun k cs hk=>by
   have hk:look k (S.aZ.filter fun p => !(p.1==i))=some cs:=hk;rw[uO]at hk;split at hk
   ·cases hk
   ·exact hn.aZ k cs hk,by show look b (S.aZ.filter fun p => !(p.1==i))=none;rw[uO,av (fun e=>IF e.symm)];exact hn.obj,hn.tok⟩ (g.κ i)
  refine⟨g',r1,fun s n x hx=>?_,fun v x hx hv=>r4 v x hx hv,lr (by rw[r2,(r5 i IF).1]) (by rw[r3,(r5 i IF).2,w5])⟩
  rcases rT hx with⟨cap,h1,h2,rfl⟩ | ⟨rfl,hz,_⟩
  ·have e1:(S.cx g w).g.κ i=(S.cx g' w).g.κ b:=r2.symm
   rw[e1];exact .bR b s n cap h1 ((h2.trans w5).trans r3.symm)
  ·exact .rP _ _ hz r3
 let g':Gh:={ g with κ:=df g.κ b (g.κ i),cp:=df g.cp b (g.cp i),ow:=df g.ow (g.κ i) (.obj b) }
 have bI:g.κ i<w.heap.size:=by
  rcases cM (g.κ i) w.heap.size with h|h
  ·exact h
  ·simp[nb h]at hh
 have t:Touch E g S w g' S.bl S.aD.length w (g.κ i) (some b) none :=
  {os:=rfl,tape:=rfl,output:=rfl,size:=bY _,heap:=fun _ _ _=>rfl,m:=fun _ _=>rfl,ow:=fun k hk=>gC _ _ hk,κ:=fun k hk=>gC _ _ (fun e=>hk (by rw[e])),
   cp:=fun k hk=>gC _ _ (fun e=>hk (by rw[e])),τ:=fun _ _=>rfl,T:=fun _ _=>rfl,
   γ:=fun _ _=>rfl,eW:=bY _,γnew:=fun k h1 h2=>absurd h1 (by omega),fresh:=.inl gN,iW:=fun p q _ e=>by(have e:df g.ow (g.κ i) (.obj b) (g.κ i)=.cell p q:=e);rw[dS]at e;exact nomatch e
   lv:=fun k e=>by(have e:df g.ow (g.κ i) (.obj b) (g.κ i)=.aD k:=e);rw[dS]at e;exact nomatch e
   kN:=fun _ _ _ h=>h,qH:=fun _=>bY _ }
 have hk:∀k,jB (S.cx g w) ⟨w.heap,g',S.aD.length,S.bl⟩ k∨k=b:=fun k=>by
  by_cases h:k=b
  ·exact .inr h
  ·exact .inl (t.keeps hR (fun e=>h (by cases e;rfl)) (fun e=>by cases e) (fun _ e=>by rw[cB]at e;cases e))
 refine⟨g',R.oQ t hR rfl rfl (fun k=>(hk k).imp (fun z=>z) fun e=>by rw[e];exact hn) (fun s v hs=>.inl hs) (fun k ei hi=>?_) (fun f k q hf hq=>.inl ⟨(fun e=>by cases e),fun _ e=>by rw[cB]at e;cases e⟩)
  (fun k o hi=>.inl ⟨hi,fun _=>⟨fun e=>(by rw[cB]at e;cases e),fun _ e=>(by rw[cB]at e;cases e)⟩⟩),fun s n x hx=>?_,fun v x hx hv=>hx.mono t.le fun k=>(hk k).imp (fun z=>z) fun e=>by rw[e];exact hv,lr (by show df _ _ _ _=df _ _ _ _;rw[dS,gC _ _ IF]) (by show df _ _ _ _=df _ _ _ _;rw[dS,gC _ _ IF])⟩
 ·have hi:look k ((b,cs)::S.aZ.filter fun p => !(p.1==i))=some ei:=hi
  rw[dL]at hi;by_cases RC:b=k
  ·subst RC
   rw[aK rfl]at hi;cases hi;refine .inr ⟨?_,?_,?_,c,e,?_,?_,fun j v hv=>?_⟩
   ·show df g.ow _ _ (df g.κ _ _ _)=_;rw[dS,dS]
   ·show _≤df g.κ _ _ _;rw[dS];exact gN
   ·show g.m (df g.κ _ _ _)=_;rw[dS];exact hm
   ·show w.heap[df g.κ _ _ _]?=_;rw[dS];exact hh
   ·show df g.cp _ _ _≤_;rw[dS];exact fY
   ·obtain⟨q1,y,q2,q3⟩:=hj j v hv
    exact⟨q1,y,q2,q3.mono t.le fun k=>(hk k).imp (fun z=>z) fun e=>by rw[e];exact uF (hn.aZ i cs ho v (g9 hv))⟩
  ·rw[av RC,uO]at hi
   split at hi
   ·cases hi
   ·rename_i Fx
    exact .inl ⟨hi,(fun e=>RC (by cases e;rfl)),fun _ e=>Fx (by rw[cB]at e;cases e;rfl)⟩
 ·rcases rT hx with⟨cap,h,hc,rfl⟩ | ⟨rfl,hz,h0⟩
  ·have e1:(S.cx g w).g.κ i=(S.cx g' w).g.κ b:=(dS g.κ b (g.κ i)).symm
   rw[e1];exact .bR b s n cap h (hc.trans (dS g.cp b (g.cp i)).symm)
  ·exact .rP _ _ hz ((dS g.cp b (g.cp i)).trans h0)
theorem Ae{h:Array Obj}{m:Nat→Nat}{n:Nat}:∀{ys:List (List V)} {l:List Value},kD h m n ys l→ys.flatten.length=l.length∧∀(j:Nat) (v:V),ys.flatten[j]?=some v→v.plain=true∧∃y,l[j]?=some y∧fF h m v y
 |[],l,hr=>by
  have:=hr.len;simp at this;subst this;simp
 |r::ys,l,hr=>by
  have hl:=hr.len;simp only[tx,oI]at hl;have sY:=hr.row 0 r rfl;have ht:kD h m n ys (l.drop n):=⟨by simp[hl],fun i row hi=>hr.row (i+1) row (by simpa using hi),fun i row j v hi hj=>by
   obtain⟨p,y,q,s⟩:=hr.cell (i+1) row j v (by simpa using hi) hj
   refine⟨p,y,?_,s⟩;rw[oF,← q,oI];congr 1;omega⟩
  obtain⟨h1,h2⟩:=Ae ht;refine⟨by simp only[uw,oG,h1,Ph,sY];omega,fun j v hv=>?_⟩
  rw[uw,qB]at hv;split at hv
  ·obtain⟨p,y,q,s⟩:=hr.cell 0 r j v rfl hv
   exact⟨p,y,by simpa using q,s⟩
  ·rename_i bI
   obtain⟨p,y,q,s⟩:=h2 _ v hv;refine⟨p,y,?_,s⟩;rw[oF,sY]at q;rw[←q];congr 1;omega
theorem R.grown(hR:R E g S a w){i:Nat}{cs ws:List V}{l:List Value}{c:Array Value}{e:TypeId}(ho:look i S.aZ=some cs)(hh:w.heap[g.κ i]?=some (.cells c e (0,0)))(fZ:cs.length+l.length≤c.size)
  (hw:∀(j:Nat) (v:V),ws[j]?=some v→v.plain=true∧∃y,l[j]?=some y∧fF w.heap g.m v y) (hlen:ws.length=l.length) (cq:g.cp i≠0) :
  R E g { S with aZ:=(i,cs++ws)::S.aZ } a (w.setRow (g.κ i) (c.toList.take cs.length++l++c.toList.drop (cs.length+l.length)).toArray) ∧
    ∀v x,bf (S.cx g w) v x→bf (S.cx g (w.setRow (g.κ i) (c.toList.take cs.length++l++c.toList.drop (cs.length+l.length)).toArray)) v x:=by
 obtain⟨cB,gN,hm,c0,e0,yA,fY,hj⟩:=(hR.aZ i cs ho).resolve_left (fun h=>cq h.2);rw[hh]at yA;cases yA;have lR:=setRow_heap w _ c (c.toList.take cs.length++l++c.toList.drop (cs.length+l.length)).toArray e _ hh;have tt:=E2 (c':=(c.toList.take cs.length++l++c.toList.drop (cs.length+l.length)).toArray) (S:=S) (w:=w) hm (.inl gN) (fun _ _ e=>by rw[cB]at e;cases e) hR
 have hk:∀k,jB (S.cx g w) ⟨(w.setRow (g.κ i) (c.toList.take cs.length++l++c.toList.drop (cs.length+l.length)).toArray).heap,g,S.aD.length,S.bl⟩ k:=fun k=>tt.keeps hR (fun e=>by cases e) (fun e=>by cases e) (fun _ e=>by rw[cB]at e;cases e)
 refine⟨R.oQ tt hR rfl rfl (fun k=>.inl (hk k)) (fun s v hs=>.inl hs) (fun k ei hi=>?_) (fun f k b hf hb=>.inl ⟨(fun e=>by cases e),fun _ e=>by rw[cB]at e;cases e⟩)
  (fun k o hi=>.inl ⟨hi,fun _=>⟨fun e=>(by rw[cB]at e;cases e),fun _ e=>(by rw[cB]at e;cases e)⟩⟩),fun v x hx=>hx.mono tt.le fun k=>.inl (hk k)⟩
 have hi:look k ((i,cs++ws)::S.aZ)=some ei:=hi;rw[dL]at hi;by_cases kE:i=k
 ·subst kE
  rw[aK rfl]at hi;cases hi;refine .inr ⟨cB,gN,hm,_,e,lR,(by rw[E1 (by omega)];exact fY),fun j u hu=>?_⟩
  rw[BC (by omega) j]
  rw[qB]at hu;split at hu
  ·rename_i bI
   rw[av (by omega)]
   obtain⟨q1,z,q2,q3⟩:=hj j u hu;exact⟨q1,z,q2,q3.mono tt.le (fun i=>.inl (hk i))⟩
  ·rename_i bI
   have:=fa hu;rw[aK (by omega)]
   obtain⟨q1,y,q2,q3⟩:=hw _ u hu;refine⟨?_,y,q2,?_⟩
   ·cases u<;>simp_all[V.plain,V.cQ]
   ·have hx:bf (S.cx g w) u y:=.plain q3 (fun f n es he=>by subst he;simp[V.plain]at q1)
    exact hx.mono tt.le (fun i=>.inl (hk i))
 ·rw[av kE]at hi
  exact .inl ⟨hi,(fun e=>by cases e),fun _ e=>kE (by rw[cB]at e;cases e;rfl)⟩
theorem ajM{o:Oper}{t e:TypeId}{nw src:Nat}{oy:Option Nat}{sh:Sh}{p q:Operand}{x y:bA}{C:bD}(ho:o.op=.call ⟨.builtin .append,#[p,q],#[t,t]⟩)(ht:P.underlying t=some (.slice e))(he:Xf P e sh.length)
  (hp:bZ p x=true) (hq:bZ q y=true) (hn:S.fb nw) (hR:R E g S a w) (hd:∀d,o.dst=some d→d<E.nt)
  (ah:VO.run C o.dst S (.uA nw src oy sh x y)=some S'):ct P E o S S' a w:=by
 obtain⟨⟨i,z,hi,hz,eH,pE,tI⟩,gX⟩:=he;have fQ:∀w,(execOp a.eval o).run P w=((Builtin.append_ #[t,t] o.type #[a.eval p,a.eval q]).run P w).andThen fun v w=>.ok (.value v) w:=fun w=>by
  simp[execOp,ho,resolve,invoke,builtin]
 have RD:∀{v:V} {y:Value},v.plain=true→fF w.heap g.m v y→v.cQ=true∧(∀d,v.cA d=false)∧bf (S.cx g w) v y:=fun {v y} h1 h2=>by
  refine⟨?_,fun d=>uF ?_,.plain h2 (fun f n es he=>by subst he;simp[V.plain]at h1)⟩
  ·cases v<;>simp_all[V.plain,V.cQ]
  ·cases v<;>simp_all[V.plain,V.cI]
   rename_i t _ _;cases t<;>simp_all[V.plain,V.cI]
 have start:∀{b u:V},mr (a.eval p)→bf (S.cx g w) u (a.eval p)→S.ev y=some b→(match S.oK oy sh b with
   |some ys=>bif ys.isEmpty then some (S.put o.dst u) else
     bif Nat.ble ys.length lim then some ({ S with aZ:=(nw,ys.flatten)::S.aZ }.put o.dst (.bR nw sh.length ys.length)) else none
   |none=>none)=some S'→ct P E o S S' a w:=fun {b u} h0 hu hy ah=>by
  split at ah
  ·rename_i ys kP
   have gO:=PN hR (c9 hR hq hy) kP;cases BZ:ys.isEmpty with
   |true =>
    simp only[BZ,bM]at ah;cases ah;have:ys=[]:=KO.1 BZ;subst this;obtain⟨base,cap,e1,_⟩:=HM gO;refine ct.value (x:=a.eval p) (w':=w) (g':=g) ?_ (hR.put hd hu);rw[fQ,e1];simp only[uy];rcases h0 with h0 | ⟨a0,h0⟩
    ·rw[h0,BA ht hi none 0 0 (bY _) base cap]
     rfl
    ·rw[h0,BA ht hi (some a0) 0 0 (bY _) base cap]
     rfl
   |false =>
    simp only[BZ,fu]at ah;have cq:ys≠[]:=fun e=>by simp[e]at BZ
    cases hle:Nat.ble ys.length lim with
    |false=>simp[hle]at ah
    |true =>
     simp only[hle,bM]at ah;cases ah;have hle:=jk hle;rcases gO with⟨rfl,_⟩ | ⟨b,off,cap,l,hy,eK,hc,hl⟩
     ·exact absurd rfl cq
     ·have hlen:0<ys.length:=CP.2 cq
      have mb:=hl.len;have hr:=PR (P:=P) (ty:=o.type) (w:=w) ht hi hz h0 (b:=⟨b,off,none⟩) (n:=ys.length) (cap:=cap) (l:=l) (by rw[eH];exact mb) (fun j v hj=>by rw[lg,cell?_eq];exact hc j v hj) hlen (by unfold lim at hle;omega) (kL (PA hle tI) (by decide))
      have HP:l.length+(grownCap w ys.length 0 e-ys.length)*z.cells.size=grownCap w ys.length 0 e*sh.length:=by
       rw[mb,pE,← qC];congr 1;have:=@grownCap_le w ys.length 0 e;omega
      obtain⟨f1,f2⟩:=Ae hl;obtain⟨g',r1,r2,r3⟩:=hR.newObj (w':=w.drew.alloc (.cells (l.toArray++Builtin.zeroCells z.cells (grownCap w ys.length 0 e-ys.length)) e)) hn rfl rfl rfl rfl (cs:=ys.flatten)
       (cpn:=grownCap w ys.length 0 e*sh.length) (hcpn:=by simp only[Ha,HO,EO];omega) (fun j v hj=>by
        obtain⟨q1,y,q2,q3⟩:=f2 j v hj;obtain⟨p1,p2,p3⟩:=RD q1 q3;exact⟨p1,p2 _,y,by rw[Ba (by have:=fa q2;simpa using this)];simpa using q2,p3⟩)
      refine ct.value (x:=.slice (some ⟨w.heap.size,0,none⟩) ys.length (grownCap w ys.length 0 e)) (g':=g') (w':=w.drew.alloc (.cells (l.toArray++Builtin.zeroCells z.cells (grownCap w ys.length 0 e-ys.length)) e)) ?_ (r1.put hd ?_)
      ·rw[fQ,hy,hr];rfl
      ·rw[←r2];exact .bR nw _ _ _ grownCap_le r3.symm
  ·cases ah
 simp only[VO.run]at ah;split at ah
 ·rename_i v hx hy
  exact start (.inl (pB (c9 hR hp hx))) (c9 hR hp hx) hy ah
 ·rename_i n v hx hy
  exact start (uH (c9 hR hp hx)) (c9 hR hp hx) hy ah
 ·rename_i id s ln v hx hy
  split at ah
  ·rename_i ys cs kP fM
   cases hc:((id==src)&&(s==sh.length)&&(cs.length==ln*s)&&Nat.ble (ln+ys.length) lim) with
   |false=>simp[hc]at ah
   |true =>
    simp only[hc,bM]at ah;cases ah;simp only[b8,eg]at hc;obtain⟨⟨⟨rfl,rfl⟩,dJ⟩,hle⟩:=hc;have hle:=jk hle;have gO:=PN hR (c9 hR hq hy) kP;have rY:=c9 hR hp hx;by_cases Ml:g.cp id=0
    ·have C7:ln=0∧mr (a.eval p):=by
      rcases rT rY with⟨cap,h1,h2,e1⟩ | ⟨h1,h2,_⟩
      ·have h2:cap*sh.length=0:=h2.trans Ml
       have yq:cap=0:=by rcases KY.1 h2 with h|h<;>omega
       subst yq;have pG:ln=0:=by omega
       exact⟨pG,.inr ⟨_,by rw[e1,pG]⟩⟩
      ·exact⟨h1,h2⟩
     obtain⟨rfl,tM⟩:=C7;have alO:cs=[]:=a8.1 (by simpa using dJ)
     subst alO;simp only[EM,kz]at hle ⊢;by_cases cq:ys=[]
     ·subst cq
      obtain⟨base,sU,e1,_⟩:=HM gO;obtain⟨g',r1,r2,_⟩:=hR.Ij hn fM;simp only[List.flatten_nil,uy];refine ct.value (x:=a.eval p) (g':=g') (w':=w) ?_ (r1.put hd (r2 _ _ _ rY));rw[fQ,e1];rcases tM with e2 | ⟨ad,e2⟩
      ·rw[e2,uy,BA ht hi none 0 0 (bY _) base sU];rfl
      ·rw[e2,uy,BA ht hi (some ad) 0 0 (bY _) base sU];rfl
     ·rcases gO with⟨rfl,_⟩ | ⟨b,off,cap,l,hy,eK,hc,hl⟩
      ·exact absurd rfl cq
      ·have hlen:0<ys.length:=CP.2 cq
       have mb:=hl.len;have hr:=PR (P:=P) (ty:=o.type) (w:=w) ht hi hz tM (b:=⟨b,off,none⟩) (n:=ys.length) (cap:=cap) (l:=l) (by rw[eH];exact mb) (fun j v hj=>by rw[lg,cell?_eq];exact hc j v hj) hlen (by unfold lim at hle;omega) (kL (PA hle tI) (by decide))
       have HP:l.length+(grownCap w ys.length 0 e-ys.length)*z.cells.size=grownCap w ys.length 0 e*sh.length:=by
        rw[mb,pE,← qC];congr 1;have:=@grownCap_le w ys.length 0 e;omega
       obtain⟨f1,f2⟩:=Ae hl;have zU:({ S with aZ:=S.aZ.filter fun p => !(p.1==id) }:St).fb nw:=by
        refine⟨hn.env,fun k ei hk=>?_,?_,hn.tok⟩
        ·rw[uO]at hk
         split at hk
         ·cases hk
         ·exact hn.aZ k ei hk
        ·rw[uO]
         split
         ·rfl
         ·exact hn.obj
       obtain⟨g',r1,r2,r3⟩:=(hR.drop id).newObj (w':=w.drew.alloc (.cells (l.toArray++Builtin.zeroCells z.cells (grownCap w ys.length 0 e-ys.length)) e)) zU rfl rfl rfl rfl (cs:=ys.flatten)
        (cpn:=grownCap w ys.length 0 e*sh.length) (hcpn:=by simp only[Ha,HO,EO];omega) (fun j v hj=>by
         obtain⟨q1,y,q2,q3⟩:=f2 j v hj;obtain⟨p1,p2,p3⟩:=RD q1 q3;exact⟨p1,p2 _,y,by rw[Ba (by have:=fa q2;simpa using this)];simpa using q2,p3⟩)
       refine ct.value (x:=.slice (some ⟨w.heap.size,0,none⟩) ys.length (grownCap w ys.length 0 e)) (g':=g') (w':=w.drew.alloc (.cells (l.toArray++Builtin.zeroCells z.cells (grownCap w ys.length 0 e-ys.length)) e)) ?_ (r1.put hd ?_)
       ·rw[fQ,hy,hr];rfl
       ·rw[←r2];exact .bR nw _ _ _ grownCap_le r3.symm
    obtain⟨cB,gN,hm,c,et,hh,fY,hj⟩:=(hR.aZ id cs fM).resolve_left (fun h=>Ml h.2);obtain⟨cap,eK,RE,hex⟩:=(rT rY).resolve_right (fun h=>Ml h.2.2);have RE:cap*sh.length=g.cp id:=RE;have hex:a.eval p=.slice (some ⟨g.κ id,0,none⟩) ln cap:=hex;have hc:cs.length≤c.size:=by
     rcases cM c.size cs.length with h|h
     ·obtain⟨_,y,hy,_⟩:=hj c.size cs[c.size] (g8 h)
      simp at hy
     ·exact h
    have fZ:cap*sh.length≤c.size:=by omega
    by_cases cq:ys=[]
    ·subst cq
     obtain⟨base,sU,e1,_⟩:=HM gO;obtain⟨g',r1,r2,_⟩:=hR.Ij hn fM;simp only[List.flatten_nil,Hh,uy,xX];refine ct.value (x:=a.eval p) (g':=g') (w':=w) ?_ (r1.put hd (r2 _ _ _ rY));rw[fQ,e1,hex];simp only[uy];rw[BA ht hi _ ln cap eK base sU];rfl
    ·rcases gO with⟨rfl,_⟩ | ⟨b',off',sU,l,zV,hcap',yo,hl⟩
     ·exact absurd rfl cq
     ·have hlen:0<ys.length:=CP.2 cq
      have mb:=hl.len;obtain⟨f1,f2⟩:=Ae hl;have HR:∀(j:Nat) (v:Value),l[j]?=some v→w.cell? ((⟨b',off',none⟩:Addr).add j)=some v:=fun j v hj=>by rw[lg,cell?_eq];exact yo j v hj
      by_cases E0:ln+ys.length≤cap
      ·have h2:(ln+ys.length)*sh.length≤cap*sh.length:=rM _ E0
       rw[qC]at h2;have hr:=run_append_room (P:=P) (ty:=o.type) ht hi (l:=l) (by rw[eH];exact mb) HR E0 (cap:=sU) hh (off:=0) (by rw[eH];omega) hl.C5
       rw[eH,kz,← dJ]at hr;obtain⟨r1,r2⟩:=hR.grown fM hh (by omega) f2 f1 Ml
       have zU:({ S with aZ:=(id,cs++ys.flatten)::S.aZ }:St).fb nw:=by
        refine⟨hn.env,fun k ei hk=>?_,?_,hn.tok⟩
        ·rw[dL]at hk
         split at hk
         ·cases hk
          intro u hu;rcases mS.1 hu with h|h
          ·exact hn.aZ id cs fM u h
          ·obtain⟨j,vQ⟩:=sH.1 h
           obtain⟨q1,_⟩:=f2 j u vQ;exact Qx q1
         ·exact hn.aZ k ei hk
        ·rw[dL,av (fun e=>by subst e;rw[hn.obj]at fM;cases fM)];exact hn.obj
       obtain⟨g',r3,r4,_⟩:=r1.Ij zU (i:=id) (cs:=cs++ys.flatten) (by rw[dL,aK rfl])
       have r5:R E g' { S with aZ:=(nw,cs++ys.flatten)::S.aZ.filter fun p => !(p.1==id) } a (w.setRow (g.κ id) (c.toList.take cs.length++l++c.toList.drop (cs.length+l.length)).toArray):=by
        have:(((id,cs++ys.flatten)::S.aZ).filter fun p => !(p.1==id))=S.aZ.filter fun p => !(p.1==id):=by simp[List.filter]
        rw[←this];exact r3
       refine ct.value (x:=.slice (some ⟨g.κ id,0,none⟩) (ln+ys.length) cap) (g':=g') (w':=w.setRow (g.κ id) (c.toList.take cs.length++l++c.toList.drop (cs.length+l.length)).toArray) ?_ (r5.put hd (r4 _ _ _ ?_))
       ·rw[fQ,hex,zV,hr];rfl
       ·exact .bR id _ _ cap E0 RE
      ·have PT:(ln+ys.length)*i.bytes≤140737488355328:=kL (PA hle tI) (by decide)
       have pG:(c.toList.take cs.length).length=ln*i.size:=by rw[eH,← dJ];simp;omega
       have hr:=run_append_grow (P:=P) w t o.type e i z ht hi hz ⟨g.κ id,0,none⟩ ln cap (c.toList.take cs.length) pG (fun j v hj=>by
         rw[lg,cell?_eq,lP hh,kz];rw[lN]at hj;split at hj
         ·simpa using hj
         ·cases hj)
        ⟨b',off',none⟩ ys.length sU l (by rw[eH];exact mb) HR (by omega) (by unfold lim at hle;omega) (growslice_fits (by omega) PT)
       have Dk:(c.toList.take cs.length).length=cs.length:=by simp;omega
       have HP:cs.length+l.length+(grownCap w (ln+ys.length) cap e-(ln+ys.length))*z.cells.size=grownCap w (ln+ys.length) cap e*sh.length:=by
        rw[dJ,mb,pE,← qC,← qC];congr 1;have:=@grownCap_le w (ln+ys.length) cap e;omega
       have zU:({ S with aZ:=S.aZ.filter fun p => !(p.1==id) }:St).fb nw:=by
        refine⟨hn.env,fun k ei hk=>?_,?_,hn.tok⟩
        ·rw[uO]at hk
         split at hk
         ·cases hk
         ·exact hn.aZ k ei hk
        ·rw[uO]
         split
         ·rfl
         ·exact hn.obj
       obtain⟨g',r1,r2,r3⟩:=(hR.drop id).newObj (w':=w.drew.alloc (.cells ((c.toList.take cs.length).toArray++l.toArray++Builtin.zeroCells z.cells (grownCap w (ln+ys.length) cap e-(ln+ys.length))) e)) zU rfl rfl rfl rfl
        (cs:=cs++ys.flatten) (cpn:=grownCap w (ln+ys.length) cap e*sh.length) (hcpn:=by simp only[Ha,HO,EO];omega) (fun j v r7=>by
         rw[qB]at r7;split at r7
         ·rename_i bI
          obtain⟨q1,y,q2,q3⟩:=hj j v r7;refine⟨q1,uF (hn.aZ id cs fM v (g9 r7)),y,?_,q3⟩;rw[Ba (by simp;omega),Ba (by simp;omega)]
          simp only[EJ,lN,bI,if_true];simpa using q2
         ·rename_i bI
          obtain⟨q1,y,q2,q3⟩:=f2 _ v r7;obtain⟨p1,p2,p3⟩:=RD q1 q3;have:=fa q2;refine⟨p1,p2 _,y,?_,p3⟩;rw[Ba (by simp;omega),Array.getElem?_append_right (by simp;omega)]
          simp only[EO,Dk];simpa using q2)
       refine ct.value (x:=.slice (some ⟨w.heap.size,0,none⟩) (ln+ys.length) (grownCap w (ln+ys.length) cap e)) (g':=g')
        (w':=w.drew.alloc (.cells ((c.toList.take cs.length).toArray++l.toArray++Builtin.zeroCells z.cells (grownCap w (ln+ys.length) cap e-(ln+ys.length))) e)) ?_ (r1.put hd ?_)
       ·rw[fQ,hex,zV,hr];rfl
       ·rw[←r2];exact .bR nw _ _ _ grownCap_le r3.symm
  ·cases ah
 ·cases ah
end
end Go.Vm
