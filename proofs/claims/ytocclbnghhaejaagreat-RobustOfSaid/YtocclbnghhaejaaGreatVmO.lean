/- The value machine, 9b: local objects that grow. -/
import Derived.Test.YtocclbnghhaejaaGreatVm9
namespace Go.Vm
set_option linter.all false
section
variable {P:Program} {E:Entry} {g g':Gh} {S S':St} {a:Act} {w w':World}
theorem sO{α:Type}{s d:Nat}:∀{l:List (Nat×α)},look s (l.filter fun p => !(p.1==d))=if s=d then none else look s l
 |[]=>by simp[look]
 |(k,v)::l=>by
  have ih:=sO (s:=s) (d:=d) (l:=l);cases h:k==d with
  |true =>
   have:=eq_of_beq h;subst this;simp only[List.filter,h,Bool.not_true];rw[ih,dA];by_cases hs:s=k
   ·simp[hs]
   ·rw[if_neg hs,if_neg hs,if_neg (fun e=>hs e.symm)]
  |false =>
   simp only[List.filter,h,Bool.not_false];rw[dA,dA,ih];by_cases hk:k=s
   ·subst hk
    have:k≠d:=by simpa using h
    simp[this]
   ·rw[if_neg hk,if_neg hk]
theorem LM{v:V}{d:Nat}(h:v.plain=true):v.cD d=false:=by
 cases v<;>simp_all[V.plain,V.cD];rename_i t _ _;cases t<;>simp_all[V.plain,V.cD]
theorem R.drop(hR:R E g S a w)(d:Nat):R E g { S with aU:=S.aU.filter fun p => !(p.1==d) } a w :=
 ⟨hR.env,fun id cs ho=>by
  have ho:look id (S.aU.filter fun p => !(p.1==d))=some cs:=ho;rw[sO]at ho;split at ho
  ·cases ho
  ·exact hR.aU id cs ho,hR.bg,hR.aF,hR.defers,hR.jh,hR.same⟩
theorem R.H3(hR:R E g S a w){id:Nat}(hn:S.eG id)(k:Nat):∃g',R E g' { S with aU:=(id,[])::S.aU } a w∧g'.κ id=k∧g'.cp id=0∧(∀v x,aZ (S.cx g w) v x→v.cj id=false→aZ (S.cx g' w) v x)∧∀j,j≠id→g'.κ j=g.κ j∧g'.cp j=g.cp j:=by
 let g':Gh:={ g with κ:=cS g.κ id k,cp:=cS g.cp id 0 }
 have t:Touch E g S w g' S.bg S.aF.length w w.heap.size (some id) none :=
  {os:=rfl,tape:=rfl,output:=rfl,size:=Nat.le_refl _,heap:=fun _ _ _=>rfl,m:=fun _ _=>rfl,ow:=fun _ _=>rfl,κ:=fun i hi=>fR _ _ (fun e=>hi (by rw[e])),cp:=fun i hi=>fR _ _ (fun e=>hi (by rw[e])),
   τ:=fun _ _=>rfl,T:=fun _ _=>rfl,γ:=fun _ _=>rfl,eN:=Nat.le_refl _,
   γnew:=fun i a b=>absurd a (by omega),fresh:=.inl hR.same.size,ib:=fun _ _ h _=>absurd hR.same.size (Nat.not_le_of_lt h),lv:=fun i h=>hR.Cd h (Nat.le_refl _),jK:=fun _ _ _ hy=>hy,oV:=fun h=>absurd h (Nat.lt_irrefl _) }
 have lg:∀i,iU (S.cx g w) ⟨w.heap,g',S.aF.length,S.bg⟩ i∨i=id:=fun i=>by
  by_cases hi:i=id
  ·exact .inr hi
  ·exact .inl (t.keeps hR (fun e=>hi (by cases e;rfl)) (fun e=>by cases e) (fun h=>absurd h (Nat.lt_irrefl _)))
 have r1:R E g' S a w:=R.nK t hR rfl rfl (fun i=>(lg i).imp (fun z=>z) fun e=>by rw[e];exact hn) (fun s v hs=>.inl hs) (fun i cs ho=>.inl ⟨ho,(fun e=>by cases e;rw[hn.obj]at ho;cases ho),fun h=>absurd h (Nat.lt_irrefl _)⟩)
  (fun i k b hi hb=>.inl ⟨(fun e=>by cases e),fun h=>absurd h (Nat.lt_irrefl _)⟩) (fun i o ho=>.inl ⟨ho,fun h=>absurd h (Nat.lt_irrefl _)⟩)
 refine⟨g',⟨r1.env,fun i cs hi=>?_,r1.bg,r1.aF,r1.defers,r1.jh,r1.same⟩,dG _ _ _,dG _ _ _,fun v x hx hv=>hx.mono t.le fun i=>(lg i).imp (fun z=>z) fun e=>by rw[e];exact hv,fun _ h=>⟨fR _ _ h,fR _ _ h⟩⟩
 have hi:look i ((id,[])::S.aU)=some cs:=hi;rw[dA]at hi;by_cases jk:id=i
 ·subst jk
  rw[if_pos rfl]at hi;cases hi;exact .inl ⟨rfl,dG _ _ _⟩
 ·rw[if_neg jk]at hi
  exact r1.aU i cs hi
theorem R.EV(hR:R E g S a w){i b:Nat}{cs:List V}(hn:S.eG b)(ho:look i S.aU=some cs) :
  ∃g',R E g' { S with aU:=(b,cs)::S.aU.filter fun p => !(p.1==i) } a w∧(∀s n x,aZ (S.cx g w) (.bQ i s n) x→aZ (S.cx g' w) (.bQ b s n) x) ∧
   (∀v x,aZ (S.cx g w) v x→v.cj b=false→aZ (S.cx g' w) v x)∧∀s n x,aZ (S.cx g' w) (.bQ i s n) x→aZ (S.cx g' w) (.bQ b s n) x:=by
 have lr:∀{g':Gh},g'.κ b=g'.κ i→g'.cp b=g'.cp i→∀s n x,aZ (S.cx g' w) (.bQ i s n) x→aZ (S.cx g' w) (.bQ b s n) x:=fun {g'} h1 h2 s n x hx=>by
  rcases pO hx with⟨cap,h3,h4,rfl⟩ | ⟨rfl,hz,h0⟩
  ·have e1:(S.cx g' w).g.κ i=(S.cx g' w).g.κ b:=h1.symm
   rw[e1];exact .bQ b s n cap h3 (h4.trans h2.symm)
  ·exact .pM _ _ hz (h2.trans h0)
 have Fi:i≠b:=fun h=>by subst h;rw[hn.obj]at ho;cases ho
 rcases hR.aU i cs ho with⟨h0,uS⟩ | ⟨cA,gf,hm,c,e,hh,fC,hj⟩
 ·subst h0
  obtain⟨g',r1,r2,r3,r4,r5⟩:=(hR.drop i).H3 (id:=b) ⟨hn.env,fun k cs hk=>by
   have hk:look k (S.aU.filter fun p => !(p.1==i))=some cs:=hk;rw[sO]at hk;split at hk
   ·cases hk
   ·exact hn.aU k cs hk,by show look b (S.aU.filter fun p => !(p.1==i))=none;rw[sO,if_neg (fun e=>Fi e.symm)];exact hn.obj,hn.tok⟩ (g.κ i)
  refine⟨g',r1,fun s n x hx=>?_,fun v x hx hv=>r4 v x hx hv,lr (by rw[r2,(r5 i Fi).1]) (by rw[r3,(r5 i Fi).2,uS])⟩
  rcases pO hx with⟨cap,h1,h2,rfl⟩ | ⟨rfl,hz,_⟩
  ·have e1:(S.cx g w).g.κ i=(S.cx g' w).g.κ b:=r2.symm
   rw[e1];exact .bQ b s n cap h1 ((h2.trans uS).trans r3.symm)
  ·exact .pM _ _ hz r3
 let g':Gh:={ g with κ:=cS g.κ b (g.κ i),cp:=cS g.cp b (g.cp i),ow:=cS g.ow (g.κ i) (.obj b) }
 have bA:g.κ i<w.heap.size:=by
  rcases Nat.lt_or_ge (g.κ i) w.heap.size with h|h
  ·exact h
  ·simp[Array.getElem?_eq_none h]at hh
 have t:Touch E g S w g' S.bg S.aF.length w (g.κ i) (some b) none :=
  {os:=rfl,tape:=rfl,output:=rfl,size:=Nat.le_refl _,heap:=fun _ _ _=>rfl,m:=fun _ _=>rfl,ow:=fun k hk=>fR _ _ hk,κ:=fun k hk=>fR _ _ (fun e=>hk (by rw[e])),
   cp:=fun k hk=>fR _ _ (fun e=>hk (by rw[e])),τ:=fun _ _=>rfl,T:=fun _ _=>rfl,
   γ:=fun _ _=>rfl,eN:=Nat.le_refl _,γnew:=fun k h1 h2=>absurd h1 (by omega),fresh:=.inl gf,ib:=fun p q _ e=>by(have e:cS g.ow (g.κ i) (.obj b) (g.κ i)=.cell p q:=e);rw[dG]at e;exact nomatch e
   lv:=fun k e=>by(have e:cS g.ow (g.κ i) (.obj b) (g.κ i)=.aF k:=e);rw[dG]at e;exact nomatch e
   jK:=fun _ _ _ h=>h,oV:=fun _=>Nat.le_refl _ }
 have hk:∀k,iU (S.cx g w) ⟨w.heap,g',S.aF.length,S.bg⟩ k∨k=b:=fun k=>by
  by_cases h:k=b
  ·exact .inr h
  ·exact .inl (t.keeps hR (fun e=>h (by cases e;rfl)) (fun e=>by cases e) (fun _ e=>by rw[cA]at e;cases e))
 refine⟨g',R.nK t hR rfl rfl (fun k=>(hk k).imp (fun z=>z) fun e=>by rw[e];exact hn) (fun s v hs=>.inl hs) (fun k dQ hi=>?_) (fun f k q hf hq=>.inl ⟨(fun e=>by cases e),fun _ e=>by rw[cA]at e;cases e⟩)
  (fun k o hi=>.inl ⟨hi,fun _=>⟨fun e=>(by rw[cA]at e;cases e),fun _ e=>(by rw[cA]at e;cases e)⟩⟩),fun s n x hx=>?_,fun v x hx hv=>hx.mono t.le fun k=>(hk k).imp (fun z=>z) fun e=>by rw[e];exact hv,lr (by show cS _ _ _ _=cS _ _ _ _;rw[dG,fR _ _ Fi]) (by show cS _ _ _ _=cS _ _ _ _;rw[dG,fR _ _ Fi])⟩
 ·have hi:look k ((b,cs)::S.aU.filter fun p => !(p.1==i))=some dQ:=hi
  rw[dA]at hi;by_cases MJ:b=k
  ·subst MJ
   rw[if_pos rfl]at hi;cases hi;refine .inr ⟨?_,?_,?_,c,e,?_,?_,fun j v hv=>?_⟩
   ·show cS g.ow _ _ (cS g.κ _ _ _)=_;rw[dG,dG]
   ·show _≤cS g.κ _ _ _;rw[dG];exact gf
   ·show g.m (cS g.κ _ _ _)=_;rw[dG];exact hm
   ·show w.heap[cS g.κ _ _ _]?=_;rw[dG];exact hh
   ·show cS g.cp _ _ _≤_;rw[dG];exact fC
   ·obtain⟨q1,y,q2,q3⟩:=hj j v hv
    exact⟨q1,y,q2,q3.mono t.le fun k=>(hk k).imp (fun z=>z) fun e=>by rw[e];exact sI (hn.aU i cs ho v (List.mem_of_getElem? hv))⟩
  ·rw[if_neg MJ,sO]at hi
   split at hi
   ·cases hi
   ·rename_i CR
    exact .inl ⟨hi,(fun e=>MJ (by cases e;rfl)),fun _ e=>CR (by rw[cA]at e;cases e;rfl)⟩
 ·rcases pO hx with⟨cap,h,hc,rfl⟩ | ⟨rfl,hz,h0⟩
  ·have e1:(S.cx g w).g.κ i=(S.cx g' w).g.κ b:=(dG g.κ b (g.κ i)).symm
   rw[e1];exact .bQ b s n cap h (hc.trans (dG g.cp b (g.cp i)).symm)
  ·exact .pM _ _ hz ((dG g.cp b (g.cp i)).trans h0)
theorem xn{h:Array Obj}{m:Nat→Nat}{n:Nat}:∀{ys:List (List V)} {l:List Value},jz h m n ys l→ys.flatten.length=l.length∧∀(j:Nat) (v:V),ys.flatten[j]?=some v→v.plain=true∧∃y,l[j]?=some y∧fg h m v y
 |[],l,hr=>by
  have:=hr.len;simp at this;subst this;simp
 |r::ys,l,hr=>by
  have hl:=hr.len;simp only[List.length_cons,Nat.succ_mul]at hl;have AS:=hr.row 0 r rfl;have ht:jz h m n ys (l.drop n):=⟨by simp[hl],fun i row hi=>hr.row (i+1) row (by simpa using hi),fun i row j v hi hj=>by
   obtain⟨p,y,q,s⟩:=hr.cell (i+1) row j v (by simpa using hi) hj
   refine⟨p,y,?_,s⟩;rw[List.getElem?_drop,← q,Nat.succ_mul];congr 1;omega⟩
  obtain⟨h1,h2⟩:=xn ht;refine⟨by simp only[List.flatten_cons,List.length_append,h1,List.length_drop,AS];omega,fun j v hv=>?_⟩
  rw[List.flatten_cons,List.getElem?_append]at hv;split at hv
  ·obtain⟨p,y,q,s⟩:=hr.cell 0 r j v rfl hv
   exact⟨p,y,by simpa using q,s⟩
  ·rename_i bA
   obtain⟨p,y,q,s⟩:=h2 _ v hv;refine⟨p,y,?_,s⟩;rw[List.getElem?_drop,AS]at q;rw[←q];congr 1;omega
theorem R.grown(hR:R E g S a w){i:Nat}{cs ws:List V}{l:List Value}{c:Array Value}{e:TypeId}(ho:look i S.aU=some cs)(hh:w.heap[g.κ i]?=some (.cells c e (0,0)))(fQ:cs.length+l.length≤c.size)
  (hw:∀(j:Nat) (v:V),ws[j]?=some v→v.plain=true∧∃y,l[j]?=some y∧fg w.heap g.m v y) (hlen:ws.length=l.length) (cg:g.cp i≠0) :
  R E g { S with aU:=(i,cs++ws)::S.aU } a (w.setRow (g.κ i) (c.toList.take cs.length++l++c.toList.drop (cs.length+l.length)).toArray) ∧
    ∀v x,aZ (S.cx g w) v x→aZ (S.cx g (w.setRow (g.κ i) (c.toList.take cs.length++l++c.toList.drop (cs.length+l.length)).toArray)) v x:=by
 obtain⟨cA,gf,hm,c0,e0,y7,fC,hj⟩:=(hR.aU i cs ho).resolve_left (fun h=>cg h.2);rw[hh]at y7;cases y7;have lK:=setRow_heap w _ c (c.toList.take cs.length++l++c.toList.drop (cs.length+l.length)).toArray e _ hh;have tt:=Ey (c':=(c.toList.take cs.length++l++c.toList.drop (cs.length+l.length)).toArray) (S:=S) (w:=w) hm (.inl gf) (fun _ _ e=>by rw[cA]at e;cases e) hR
 have hk:∀k,iU (S.cx g w) ⟨(w.setRow (g.κ i) (c.toList.take cs.length++l++c.toList.drop (cs.length+l.length)).toArray).heap,g,S.aF.length,S.bg⟩ k:=fun k=>tt.keeps hR (fun e=>by cases e) (fun e=>by cases e) (fun _ e=>by rw[cA]at e;cases e)
 refine⟨R.nK tt hR rfl rfl (fun k=>.inl (hk k)) (fun s v hs=>.inl hs) (fun k dQ hi=>?_) (fun f k b hf hb=>.inl ⟨(fun e=>by cases e),fun _ e=>by rw[cA]at e;cases e⟩)
  (fun k o hi=>.inl ⟨hi,fun _=>⟨fun e=>(by rw[cA]at e;cases e),fun _ e=>(by rw[cA]at e;cases e)⟩⟩),fun v x hx=>hx.mono tt.le fun k=>.inl (hk k)⟩
 have hi:look k ((i,cs++ws)::S.aU)=some dQ:=hi;rw[dA]at hi;by_cases kK:i=k
 ·subst kK
  rw[if_pos rfl]at hi;cases hi;refine .inr ⟨cA,gf,hm,_,e,lK,(by rw[Ex (by omega)];exact fC),fun j u hu=>?_⟩
  rw[Ck (by omega) j]
  rw[List.getElem?_append]at hu;split at hu
  ·rename_i bA
   rw[if_neg (by omega)]
   obtain⟨q1,z,q2,q3⟩:=hj j u hu;exact⟨q1,z,q2,q3.mono tt.le (fun i=>.inl (hk i))⟩
  ·rename_i bA
   have:=eK hu;rw[if_pos (by omega)]
   obtain⟨q1,y,q2,q3⟩:=hw _ u hu;refine⟨?_,y,q2,?_⟩
   ·cases u<;>simp_all[V.plain,V.cI]
   ·have hx:aZ (S.cx g w) u y:=.plain q3 (fun f n es he=>by subst he;simp[V.plain]at q1)
    exact hx.mono tt.le (fun i=>.inl (hk i))
 ·rw[if_neg kK]at hi
  exact .inl ⟨hi,(fun e=>by cases e),fun _ e=>kK (by rw[cA]at e;cases e;rfl)⟩
theorem adB{o:Oper}{t e:TypeId}{nw src:Nat}{sh:Sh}{p q:Operand}{x y:bq}{C:bw}(ho:o.op=.call ⟨.builtin .append,#[p,q],#[t,t]⟩)(ht:P.underlying t=some (.slice e))(he:Rg P e sh.length)
  (hp:bO p x=true) (hq:bO q y=true) (hn:S.eG nw) (hR:R E g S a w) (hd:∀d,o.dst=some d→d<E.nt)
  (ah:VO.run C o.dst S (.sD nw src sh x y)=some S'):cb P E o S S' a w:=by
 obtain⟨⟨i,z,hi,hz,eb,nM,oZ⟩,gM⟩:=he;have gp:∀w,(execOp a.eval o).run P w=((Builtin.append_ #[t,t] o.type #[a.eval p,a.eval q]).run P w).andThen fun v w=>.ok (.value v) w:=fun w=>by
  simp[execOp,ho,resolve,invoke,builtin]
 have MK:∀{v:V} {y:Value},v.plain=true→fg w.heap g.m v y→v.cI=true∧(∀d,v.cj d=false)∧aZ (S.cx g w) v y:=fun {v y} h1 h2=>by
  refine⟨?_,fun d=>sI ?_,.plain h2 (fun f n es he=>by subst he;simp[V.plain]at h1)⟩
  ·cases v<;>simp_all[V.plain,V.cI]
  ·cases v<;>simp_all[V.plain,V.cD]
   rename_i t _ _;cases t<;>simp_all[V.plain,V.cD]
 have start:∀{b u:V},la (a.eval p)→aZ (S.cx g w) u (a.eval p)→S.ev y=some b→(match S.rows sh b with
   |some ys=>bif ys.isEmpty then some (S.put o.dst u) else
     bif Nat.ble ys.length lim then some ({ S with aU:=(nw,ys.flatten)::S.aU }.put o.dst (.bQ nw sh.length ys.length)) else none
   |none=>none)=some S'→cb P E o S S' a w:=fun {b u} h0 hu hy ah=>by
  split at ah
  ·rename_i ys jL
   have gO:=Ep hR (cQ hR hq hy) jL;cases C7:ys.isEmpty with
   |true =>
    simp only[C7,cond_true]at ah;cases ah;have:ys=[]:=List.isEmpty_iff.1 C7;subst this;obtain⟨base,cap,e1,_⟩:=Er gO;refine cb.value (x:=a.eval p) (w':=w) (g':=g) ?_ (hR.put hd hu);rw[gp,e1];simp only[List.length_nil];rcases h0 with h0 | ⟨a0,h0⟩
    ·rw[h0,yY ht hi none 0 0 (Nat.le_refl _) base cap]
     rfl
    ·rw[h0,yY ht hi (some a0) 0 0 (Nat.le_refl _) base cap]
     rfl
   |false =>
    simp only[C7,cond_false]at ah;have cg:ys≠[]:=fun e=>by simp[e]at C7
    cases hle:Nat.ble ys.length lim with
    |false=>simp[hle]at ah
    |true =>
     simp only[hle,cond_true]at ah;cases ah;have hle:=Nat.le_of_ble_eq_true hle;rcases gO with⟨rfl,_⟩ | ⟨b,off,cap,l,hy,eA,hc,hl⟩
     ·exact absurd rfl cg
     ·have hlen:0<ys.length:=List.length_pos_iff.2 cg
      have ky:=hl.len;have hr:=KY (P:=P) (ty:=o.type) (w:=w) ht hi hz h0 (b:=⟨b,off,none⟩) (n:=ys.length) (cap:=cap) (l:=l) (by rw[eb];exact ky) (fun j v hj=>by rw[kG,cell?_eq];exact hc j v hj) hlen (by unfold lim at hle;omega) (Nat.le_trans (Nat.mul_le_mul hle oZ) (by decide))
      have Eu:l.length+(grownCap w ys.length 0 e-ys.length)*z.cells.size=grownCap w ys.length 0 e*sh.length:=by
       rw[ky,nM,← Nat.add_mul];congr 1;have:=@grownCap_le w ys.length 0 e;omega
      obtain⟨f1,f2⟩:=xn hl;obtain⟨g',r1,r2,r3⟩:=hR.newObj (w':=w.drew.alloc (.cells (l.toArray++Builtin.zeroCells z.cells (grownCap w ys.length 0 e-ys.length)) e)) hn rfl rfl rfl rfl (cs:=ys.flatten)
       (cpn:=grownCap w ys.length 0 e*sh.length) (hcpn:=by simp only[Array.size_append,Et,List.size_toArray];omega) (fun j v hj=>by
        obtain⟨q1,y,q2,q3⟩:=f2 j v hj;obtain⟨p1,p2,p3⟩:=MK q1 q3;exact⟨p1,p2 _,y,by rw[Array.getElem?_append_left (by have:=eK q2;simpa using this)];simpa using q2,p3⟩)
      refine cb.value (x:=.slice (some ⟨w.heap.size,0,none⟩) ys.length (grownCap w ys.length 0 e)) (g':=g') (w':=w.drew.alloc (.cells (l.toArray++Builtin.zeroCells z.cells (grownCap w ys.length 0 e-ys.length)) e)) ?_ (r1.put hd ?_)
      ·rw[gp,hy,hr];rfl
      ·rw[←r2];exact .bQ nw _ _ _ grownCap_le r3.symm
  ·cases ah
 simp only[VO.run]at ah;split at ah
 ·rename_i v hx hy
  exact start (.inl (nG (cQ hR hp hx))) (cQ hR hp hx) hy ah
 ·rename_i n v hx hy
  exact start (sJ (cQ hR hp hx)) (cQ hR hp hx) hy ah
 ·rename_i id s ln v hx hy
  split at ah
  ·rename_i ys cs jL fw
   cases hc:((id==src)&&(s==sh.length)&&(cs.length==ln*s)&&Nat.ble (ln+ys.length) lim) with
   |false=>simp[hc]at ah
   |true =>
    simp only[hc,cond_true]at ah;cases ah;simp only[Bool.and_eq_true,beq_iff_eq]at hc;obtain⟨⟨⟨rfl,rfl⟩,dw⟩,hle⟩:=hc;have hle:=Nat.le_of_ble_eq_true hle;have gO:=Ep hR (cQ hR hq hy) jL;have pR:=cQ hR hp hx;by_cases IA:g.cp id=0
    ·have wZ:ln=0∧la (a.eval p):=by
      rcases pO pR with⟨cap,h1,h2,e1⟩ | ⟨h1,h2,_⟩
      ·have h2:cap*sh.length=0:=h2.trans IA
       have vV:cap=0:=by rcases Nat.mul_eq_zero.1 h2 with h|h<;>omega
       subst vV;have mB:ln=0:=by omega
       exact⟨mB,.inr ⟨_,by rw[e1,mB]⟩⟩
      ·exact⟨h1,h2⟩
     obtain⟨rfl,rA⟩:=wZ;have afq:cs=[]:=List.length_eq_zero_iff.1 (by simpa using dw)
     subst afq;simp only[List.nil_append,Nat.zero_add]at hle ⊢;by_cases cg:ys=[]
     ·subst cg
      obtain⟨base,qu,e1,_⟩:=Er gO;obtain⟨g',r1,r2,_⟩:=hR.EV hn fw;simp only[List.flatten_nil,List.length_nil];refine cb.value (x:=a.eval p) (g':=g') (w':=w) ?_ (r1.put hd (r2 _ _ _ pR));rw[gp,e1];rcases rA with e2 | ⟨ad,e2⟩
      ·rw[e2,List.length_nil,yY ht hi none 0 0 (Nat.le_refl _) base qu];rfl
      ·rw[e2,List.length_nil,yY ht hi (some ad) 0 0 (Nat.le_refl _) base qu];rfl
     ·rcases gO with⟨rfl,_⟩ | ⟨b,off,cap,l,hy,eA,hc,hl⟩
      ·exact absurd rfl cg
      ·have hlen:0<ys.length:=List.length_pos_iff.2 cg
       have ky:=hl.len;have hr:=KY (P:=P) (ty:=o.type) (w:=w) ht hi hz rA (b:=⟨b,off,none⟩) (n:=ys.length) (cap:=cap) (l:=l) (by rw[eb];exact ky) (fun j v hj=>by rw[kG,cell?_eq];exact hc j v hj) hlen (by unfold lim at hle;omega) (Nat.le_trans (Nat.mul_le_mul hle oZ) (by decide))
       have Eu:l.length+(grownCap w ys.length 0 e-ys.length)*z.cells.size=grownCap w ys.length 0 e*sh.length:=by
        rw[ky,nM,← Nat.add_mul];congr 1;have:=@grownCap_le w ys.length 0 e;omega
       obtain⟨f1,f2⟩:=xn hl;have xa:({ S with aU:=S.aU.filter fun p => !(p.1==id) }:St).eG nw:=by
        refine⟨hn.env,fun k dQ hk=>?_,?_,hn.tok⟩
        ·rw[sO]at hk
         split at hk
         ·cases hk
         ·exact hn.aU k dQ hk
        ·rw[sO]
         split
         ·rfl
         ·exact hn.obj
       obtain⟨g',r1,r2,r3⟩:=(hR.drop id).newObj (w':=w.drew.alloc (.cells (l.toArray++Builtin.zeroCells z.cells (grownCap w ys.length 0 e-ys.length)) e)) xa rfl rfl rfl rfl (cs:=ys.flatten)
        (cpn:=grownCap w ys.length 0 e*sh.length) (hcpn:=by simp only[Array.size_append,Et,List.size_toArray];omega) (fun j v hj=>by
         obtain⟨q1,y,q2,q3⟩:=f2 j v hj;obtain⟨p1,p2,p3⟩:=MK q1 q3;exact⟨p1,p2 _,y,by rw[Array.getElem?_append_left (by have:=eK q2;simpa using this)];simpa using q2,p3⟩)
       refine cb.value (x:=.slice (some ⟨w.heap.size,0,none⟩) ys.length (grownCap w ys.length 0 e)) (g':=g') (w':=w.drew.alloc (.cells (l.toArray++Builtin.zeroCells z.cells (grownCap w ys.length 0 e-ys.length)) e)) ?_ (r1.put hd ?_)
       ·rw[gp,hy,hr];rfl
       ·rw[←r2];exact .bQ nw _ _ _ grownCap_le r3.symm
    obtain⟨cA,gf,hm,c,et,hh,fC,hj⟩:=(hR.aU id cs fw).resolve_left (fun h=>IA h.2);obtain⟨cap,eA,ML,hex⟩:=(pO pR).resolve_right (fun h=>IA h.2.2);have ML:cap*sh.length=g.cp id:=ML;have hex:a.eval p=.slice (some ⟨g.κ id,0,none⟩) ln cap:=hex;have hc:cs.length≤c.size:=by
     rcases Nat.lt_or_ge c.size cs.length with h|h
     ·obtain⟨_,y,hy,_⟩:=hj c.size cs[c.size] (List.getElem?_eq_getElem h)
      simp at hy
     ·exact h
    have fQ:cap*sh.length≤c.size:=by omega
    by_cases cg:ys=[]
    ·subst cg
     obtain⟨base,qu,e1,_⟩:=Er gO;obtain⟨g',r1,r2,_⟩:=hR.EV hn fw;simp only[List.flatten_nil,List.append_nil,List.length_nil,Nat.add_zero];refine cb.value (x:=a.eval p) (g':=g') (w':=w) ?_ (r1.put hd (r2 _ _ _ pR));rw[gp,e1,hex];simp only[List.length_nil];rw[yY ht hi _ ln cap eA base qu];rfl
    ·rcases gO with⟨rfl,_⟩ | ⟨b',off',qu,l,xb,hcap',vT,hl⟩
     ·exact absurd rfl cg
     ·have hlen:0<ys.length:=List.length_pos_iff.2 cg
      have ky:=hl.len;obtain⟨f1,f2⟩:=xn hl;have Ew:∀(j:Nat) (v:Value),l[j]?=some v→w.cell? ((⟨b',off',none⟩:Addr).add j)=some v:=fun j v hj=>by rw[kG,cell?_eq];exact vT j v hj
      by_cases Ci:ln+ys.length≤cap
      ·have h2:(ln+ys.length)*sh.length≤cap*sh.length:=Nat.mul_le_mul_right _ Ci
       rw[Nat.add_mul]at h2;have hr:=run_append_room (P:=P) (ty:=o.type) ht hi (l:=l) (by rw[eb];exact ky) Ew Ci (cap:=qu) hh (off:=0) (by rw[eb];omega) hl.AD
       rw[eb,Nat.zero_add,← dw]at hr;obtain⟨r1,r2⟩:=hR.grown fw hh (by omega) f2 f1 IA
       have xa:({ S with aU:=(id,cs++ys.flatten)::S.aU }:St).eG nw:=by
        refine⟨hn.env,fun k dQ hk=>?_,?_,hn.tok⟩
        ·rw[dA]at hk
         split at hk
         ·cases hk
          intro u hu;rcases List.mem_append.1 hu with h|h
          ·exact hn.aU id cs fw u h
          ·obtain⟨j,tP⟩:=List.mem_iff_getElem?.1 h
           obtain⟨q1,_⟩:=f2 j u tP;exact LM q1
         ·exact hn.aU k dQ hk
        ·rw[dA,if_neg (fun e=>by subst e;rw[hn.obj]at fw;cases fw)];exact hn.obj
       obtain⟨g',r3,r4,_⟩:=r1.EV xa (i:=id) (cs:=cs++ys.flatten) (by rw[dA,if_pos rfl])
       have r5:R E g' { S with aU:=(nw,cs++ys.flatten)::S.aU.filter fun p => !(p.1==id) } a (w.setRow (g.κ id) (c.toList.take cs.length++l++c.toList.drop (cs.length+l.length)).toArray):=by
        have:(((id,cs++ys.flatten)::S.aU).filter fun p => !(p.1==id))=S.aU.filter fun p => !(p.1==id):=by simp[List.filter]
        rw[←this];exact r3
       refine cb.value (x:=.slice (some ⟨g.κ id,0,none⟩) (ln+ys.length) cap) (g':=g') (w':=w.setRow (g.κ id) (c.toList.take cs.length++l++c.toList.drop (cs.length+l.length)).toArray) ?_ (r5.put hd (r4 _ _ _ ?_))
       ·rw[gp,hex,xb,hr];rfl
       ·exact .bQ id _ _ cap Ci ML
      ·have K1:(ln+ys.length)*i.bytes≤140737488355328:=Nat.le_trans (Nat.mul_le_mul hle oZ) (by decide)
       have mB:(c.toList.take cs.length).length=ln*i.size:=by rw[eb,← dw];simp;omega
       have hr:=run_append_grow (P:=P) w t o.type e i z ht hi hz ⟨g.κ id,0,none⟩ ln cap (c.toList.take cs.length) mB (fun j v hj=>by
         rw[kG,cell?_eq,kZ hh,Nat.zero_add];rw[List.getElem?_take]at hj;split at hj
         ·simpa using hj
         ·cases hj)
        ⟨b',off',none⟩ ys.length qu l (by rw[eb];exact ky) Ew (by omega) (by unfold lim at hle;omega) (growslice_fits (by omega) K1)
       have HF:(c.toList.take cs.length).length=cs.length:=by simp;omega
       have Eu:cs.length+l.length+(grownCap w (ln+ys.length) cap e-(ln+ys.length))*z.cells.size=grownCap w (ln+ys.length) cap e*sh.length:=by
        rw[dw,ky,nM,← Nat.add_mul,← Nat.add_mul];congr 1;have:=@grownCap_le w (ln+ys.length) cap e;omega
       have xa:({ S with aU:=S.aU.filter fun p => !(p.1==id) }:St).eG nw:=by
        refine⟨hn.env,fun k dQ hk=>?_,?_,hn.tok⟩
        ·rw[sO]at hk
         split at hk
         ·cases hk
         ·exact hn.aU k dQ hk
        ·rw[sO]
         split
         ·rfl
         ·exact hn.obj
       obtain⟨g',r1,r2,r3⟩:=(hR.drop id).newObj (w':=w.drew.alloc (.cells ((c.toList.take cs.length).toArray++l.toArray++Builtin.zeroCells z.cells (grownCap w (ln+ys.length) cap e-(ln+ys.length))) e)) xa rfl rfl rfl rfl
        (cs:=cs++ys.flatten) (cpn:=grownCap w (ln+ys.length) cap e*sh.length) (hcpn:=by simp only[Array.size_append,Et,List.size_toArray];omega) (fun j v qy=>by
         rw[List.getElem?_append]at qy;split at qy
         ·rename_i bA
          obtain⟨q1,y,q2,q3⟩:=hj j v qy;refine⟨q1,sI (hn.aU id cs fw v (List.mem_of_getElem? qy)),y,?_,q3⟩;rw[Array.getElem?_append_left (by simp;omega),Array.getElem?_append_left (by simp;omega)]
          simp only[List.getElem?_toArray,List.getElem?_take,bA,if_true];simpa using q2
         ·rename_i bA
          obtain⟨q1,y,q2,q3⟩:=f2 _ v qy;obtain⟨p1,p2,p3⟩:=MK q1 q3;have:=eK q2;refine⟨p1,p2 _,y,?_,p3⟩;rw[Array.getElem?_append_left (by simp;omega),Array.getElem?_append_right (by simp;omega)]
          simp only[List.size_toArray,HF];simpa using q2)
       refine cb.value (x:=.slice (some ⟨w.heap.size,0,none⟩) (ln+ys.length) (grownCap w (ln+ys.length) cap e)) (g':=g')
        (w':=w.drew.alloc (.cells ((c.toList.take cs.length).toArray++l.toArray++Builtin.zeroCells z.cells (grownCap w (ln+ys.length) cap e-(ln+ys.length))) e)) ?_ (r1.put hd ?_)
       ·rw[gp,hex,xb,hr];rfl
       ·rw[←r2];exact .bQ nw _ _ _ grownCap_le r3.symm
  ·cases ah
 ·cases ah
end
end Go.Vm
