/- The value machine, 9b: local objects that grow. -/
import Derived.Test.YtmpikpodpgnjhaaGreatVm9
namespace Go.Vm
set_option linter.all false
section
variable {P:Program} {E:Entry} {g g':Gh} {S S':St} {a:Act} {w w':World}
theorem qV{α:Type}{s d:Nat}:∀{l:List (Nat×α)},look s (l.filter fun p => !(p.1==d))=if s=d then none else look s l
 |[]=>by simp[look]
 |(k,v)::l=>by
  have ih:=qV (s:=s) (d:=d) (l:=l);cases h:k==d with
  |true =>
   have:=eq_of_beq h;subst this;simp only[List.filter,h,Bool.not_true];rw[ih,dF];by_cases hs:s=k
   ·simp[hs]
   ·rw[if_neg hs,if_neg hs,if_neg (fun e=>hs e.symm)]
  |false =>
   simp only[List.filter,h,Bool.not_false];rw[dF,dF,ih];by_cases hk:k=s
   ·subst hk
    have:k≠d:=by simpa using h
    simp[this]
   ·rw[if_neg hk,if_neg hk]
theorem I8{v:V}{d:Nat}(h:v.plain=true):v.cj d=false:=by
 cases v<;>simp_all[V.plain,V.cj];rename_i t _ _;cases t<;>simp_all[V.plain,V.cj]
theorem R.drop(hR:R E g S a w)(d:Nat):R E g { S with aV:=S.aV.filter fun p => !(p.1==d) } a w :=
 ⟨hR.env,fun id cs ho=>by
  have ho:look id (S.aV.filter fun p => !(p.1==d))=some cs:=ho;rw[qV]at ho;split at ho
  ·cases ho
  ·exact hR.aV id cs ho,hR.a7,hR.ay,hR.defers,hR.jb,hR.same⟩
theorem R.Jt(hR:R E g S a w){id:Nat}(hn:S.ez id)(k:Nat):∃g',R E g' { S with aV:=(id,[])::S.aV } a w∧g'.κ id=k∧g'.cp id=0∧∀v x,aY (S.cx g w) v x→v.ca id=false→aY (S.cx g' w) v x:=by
 let g':Gh:={ g with κ:=cQ g.κ id k,cp:=cQ g.cp id 0 }
 have t:Touch E g S w g' S.a7 S.ay.length w w.heap.size (some id) none :=
  {os:=rfl,tape:=rfl,output:=rfl,size:=Nat.le_refl _,heap:=fun _ _ _=>rfl,m:=fun _ _=>rfl,ow:=fun _ _=>rfl,κ:=fun i hi=>gd _ _ (fun e=>hi (by rw[e])),cp:=fun i hi=>gd _ _ (fun e=>hi (by rw[e])),
   τ:=fun _ _=>rfl,T:=fun _ _=>rfl,γ:=fun _ _=>rfl,eG:=Nat.le_refl _,
   γnew:=fun i a b=>absurd a (by omega),fresh:=.inl hR.same.size,gN:=fun _ _ h _=>absurd hR.same.size (Nat.not_le_of_lt h),lv:=fun i h=>hR.z7 h (Nat.le_refl _),jQ:=fun _ _ _ hy=>hy,nZ:=fun h=>absurd h (Nat.lt_irrefl _) }
 have kn:∀i,il (S.cx g w) ⟨w.heap,g',S.ay.length,S.a7⟩ i∨i=id:=fun i=>by
  by_cases hi:i=id
  ·exact .inr hi
  ·exact .inl (t.keeps hR (fun e=>hi (by cases e;rfl)) (fun e=>by cases e) (fun h=>absurd h (Nat.lt_irrefl _)))
 have r1:R E g' S a w:=R.mU t hR rfl rfl (fun i=>(kn i).imp (fun z=>z) fun e=>by rw[e];exact hn) (fun s v hs=>.inl hs) (fun i cs ho=>.inl ⟨ho,(fun e=>by cases e;rw[hn.obj]at ho;cases ho),fun h=>absurd h (Nat.lt_irrefl _)⟩)
  (fun i k b hi hb=>.inl ⟨(fun e=>by cases e),fun h=>absurd h (Nat.lt_irrefl _)⟩) (fun i o ho=>.inl ⟨ho,fun h=>absurd h (Nat.lt_irrefl _)⟩)
 refine⟨g',⟨r1.env,fun i cs hi=>?_,r1.a7,r1.ay,r1.defers,r1.jb,r1.same⟩,dC _ _ _,dC _ _ _,fun v x hx hv=>hx.mono t.le fun i=>(kn i).imp (fun z=>z) fun e=>by rw[e];exact hv⟩
 have hi:look i ((id,[])::S.aV)=some cs:=hi;rw[dF]at hi;by_cases jG:id=i
 ·subst jG
  rw[if_pos rfl]at hi;cases hi;exact .inl ⟨rfl,dC _ _ _⟩
 ·rw[if_neg jG]at hi
  exact r1.aV i cs hi
theorem R.Fq(hR:R E g S a w){i b:Nat}{cs:List V}(hn:S.ez b)(ho:look i S.aV=some cs) :
  ∃g',R E g' { S with aV:=(b,cs)::S.aV.filter fun p => !(p.1==i) } a w∧(∀s n x,aY (S.cx g w) (.bO i s n) x→aY (S.cx g' w) (.bO b s n) x) ∧
   ∀v x,aY (S.cx g w) v x→v.ca b=false→aY (S.cx g' w) v x:=by
 have hib:i≠b:=fun h=>by subst h;rw[hn.obj]at ho;cases ho
 rcases hR.aV i cs ho with⟨h0,uL⟩ | ⟨cn,fU,hm,c,e,hh,eT,hj⟩
 ·subst h0
  obtain⟨g',r1,r2,r3,r4⟩:=(hR.drop i).Jt (id:=b) ⟨hn.env,fun k cs hk=>by
   have hk:look k (S.aV.filter fun p => !(p.1==i))=some cs:=hk;rw[qV]at hk;split at hk
   ·cases hk
   ·exact hn.aV k cs hk,by show look b (S.aV.filter fun p => !(p.1==i))=none;rw[qV,if_neg (fun e=>hib e.symm)];exact hn.obj,hn.tok⟩ (g.κ i)
  refine⟨g',r1,fun s n x hx=>?_,fun v x hx hv=>r4 v x hx hv⟩;rcases pg hx with⟨cap,h1,h2,rfl⟩ | ⟨rfl,hz,_⟩
  ·have e1:(S.cx g w).g.κ i=(S.cx g' w).g.κ b:=r2.symm
   rw[e1];exact .bO b s n cap h1 ((h2.trans uL).trans r3.symm)
  ·exact .qb _ _ hz r3
 let g':Gh:={ g with κ:=cQ g.κ b (g.κ i),cp:=cQ g.cp b (g.cp i),ow:=cQ g.ow (g.κ i) (.obj b) }
 have br:g.κ i<w.heap.size:=by
  rcases Nat.lt_or_ge (g.κ i) w.heap.size with h|h
  ·exact h
  ·simp[Array.getElem?_eq_none h]at hh
 have t:Touch E g S w g' S.a7 S.ay.length w (g.κ i) (some b) none :=
  {os:=rfl,tape:=rfl,output:=rfl,size:=Nat.le_refl _,heap:=fun _ _ _=>rfl,m:=fun _ _=>rfl,ow:=fun k hk=>gd _ _ hk,κ:=fun k hk=>gd _ _ (fun e=>hk (by rw[e])),
   cp:=fun k hk=>gd _ _ (fun e=>hk (by rw[e])),τ:=fun _ _=>rfl,T:=fun _ _=>rfl,
   γ:=fun _ _=>rfl,eG:=Nat.le_refl _,γnew:=fun k h1 h2=>absurd h1 (by omega),fresh:=.inl fU,gN:=fun p q _ e=>by(have e:cQ g.ow (g.κ i) (.obj b) (g.κ i)=.cell p q:=e);rw[dC]at e;exact nomatch e
   lv:=fun k e=>by(have e:cQ g.ow (g.κ i) (.obj b) (g.κ i)=.ay k:=e);rw[dC]at e;exact nomatch e
   jQ:=fun _ _ _ h=>h,nZ:=fun _=>Nat.le_refl _ }
 have hk:∀k,il (S.cx g w) ⟨w.heap,g',S.ay.length,S.a7⟩ k∨k=b:=fun k=>by
  by_cases h:k=b
  ·exact .inr h
  ·exact .inl (t.keeps hR (fun e=>h (by cases e;rfl)) (fun e=>by cases e) (fun _ e=>by rw[cn]at e;cases e))
 refine⟨g',R.mU t hR rfl rfl (fun k=>(hk k).imp (fun z=>z) fun e=>by rw[e];exact hn) (fun s v hs=>.inl hs) (fun k dR hi=>?_) (fun f k q hf hq=>.inl ⟨(fun e=>by cases e),fun _ e=>by rw[cn]at e;cases e⟩)
  (fun k o hi=>.inl ⟨hi,fun _=>⟨fun e=>(by rw[cn]at e;cases e),fun _ e=>(by rw[cn]at e;cases e)⟩⟩),fun s n x hx=>?_,fun v x hx hv=>hx.mono t.le fun k=>(hk k).imp (fun z=>z) fun e=>by rw[e];exact hv⟩
 ·have hi:look k ((b,cs)::S.aV.filter fun p => !(p.1==i))=some dR:=hi
  rw[dF]at hi;by_cases J1:b=k
  ·subst J1
   rw[if_pos rfl]at hi;cases hi;refine .inr ⟨?_,?_,?_,c,e,?_,?_,fun j v hv=>?_⟩
   ·show cQ g.ow _ _ (cQ g.κ _ _ _)=_;rw[dC,dC]
   ·show _≤cQ g.κ _ _ _;rw[dC];exact fU
   ·show g.m (cQ g.κ _ _ _)=_;rw[dC];exact hm
   ·show w.heap[cQ g.κ _ _ _]?=_;rw[dC];exact hh
   ·show cQ g.cp _ _ _≤_;rw[dC];exact eT
   ·obtain⟨q1,y,q2,q3⟩:=hj j v hv
    exact⟨q1,y,q2,q3.mono t.le fun k=>(hk k).imp (fun z=>z) fun e=>by rw[e];exact qP (hn.aV i cs ho v (List.mem_of_getElem? hv))⟩
  ·rw[if_neg J1,qV]at hi
   split at hi
   ·cases hi
   ·rename_i hki
    exact .inl ⟨hi,(fun e=>J1 (by cases e;rfl)),fun _ e=>hki (by rw[cn]at e;cases e;rfl)⟩
 ·rcases pg hx with⟨cap,h,hc,rfl⟩ | ⟨rfl,hz,h0⟩
  ·have e1:(S.cx g w).g.κ i=(S.cx g' w).g.κ b:=(dC g.κ b (g.κ i)).symm
   rw[e1];exact .bO b s n cap h (hc.trans (dC g.cp b (g.cp i)).symm)
  ·exact .qb _ _ hz ((dC g.cp b (g.cp i)).trans h0)
theorem xj{h:Array Obj}{m:Nat→Nat}{n:Nat}:∀{ys:List (List V)} {l:List Value},iU h m n ys l→ys.flatten.length=l.length∧∀(j:Nat) (v:V),ys.flatten[j]?=some v→v.plain=true∧∃y,l[j]?=some y∧eS h m v y
 |[],l,hr=>by
  have:=hr.len;simp at this;subst this;simp
 |r::ys,l,hr=>by
  have hl:=hr.len;simp only[List.length_cons,Nat.succ_mul]at hl;have yK:=hr.row 0 r rfl;have ht:iU h m n ys (l.drop n):=⟨by simp[hl],fun i row hi=>hr.row (i+1) row (by simpa using hi),fun i row j v hi hj=>by
   obtain⟨p,y,q,s⟩:=hr.cell (i+1) row j v (by simpa using hi) hj
   refine⟨p,y,?_,s⟩;rw[List.getElem?_drop,← q,Nat.succ_mul];congr 1;omega⟩
  obtain⟨h1,h2⟩:=xj ht;refine⟨by simp only[List.flatten_cons,List.length_append,h1,List.length_drop,yK];omega,fun j v hv=>?_⟩
  rw[List.flatten_cons,List.getElem?_append]at hv;split at hv
  ·obtain⟨p,y,q,s⟩:=hr.cell 0 r j v rfl hv
   exact⟨p,y,by simpa using q,s⟩
  ·rename_i br
   obtain⟨p,y,q,s⟩:=h2 _ v hv;refine⟨p,y,?_,s⟩;rw[List.getElem?_drop,yK]at q;rw[←q];congr 1;omega
theorem R.grown(hR:R E g S a w){i:Nat}{cs ws:List V}{l:List Value}{c:Array Value}{e:TypeId}(ho:look i S.aV=some cs)(hh:w.heap[g.κ i]?=some (.cells c e (0,0)))(fy:cs.length+l.length≤c.size)
  (hw:∀(j:Nat) (v:V),ws[j]?=some v→v.plain=true∧∃y,l[j]?=some y∧eS w.heap g.m v y) (hlen:ws.length=l.length) (ch:g.cp i≠0) :
  R E g { S with aV:=(i,cs++ws)::S.aV } a (w.setRow (g.κ i) (c.toList.take cs.length++l++c.toList.drop (cs.length+l.length)).toArray) ∧
    ∀v x,aY (S.cx g w) v x→aY (S.cx g (w.setRow (g.κ i) (c.toList.take cs.length++l++c.toList.drop (cs.length+l.length)).toArray)) v x:=by
 obtain⟨cn,fU,hm,c0,e0,xg,eT,hj⟩:=(hR.aV i cs ho).resolve_left (fun h=>ch h.2);rw[hh]at xg;cases xg;have kN:=setRow_heap w _ c (c.toList.take cs.length++l++c.toList.drop (cs.length+l.length)).toArray e _ hh;have tt:=B7 (c':=(c.toList.take cs.length++l++c.toList.drop (cs.length+l.length)).toArray) (S:=S) (w:=w) hm (.inl fU) (fun _ _ e=>by rw[cn]at e;cases e) hR
 have hk:∀k,il (S.cx g w) ⟨(w.setRow (g.κ i) (c.toList.take cs.length++l++c.toList.drop (cs.length+l.length)).toArray).heap,g,S.ay.length,S.a7⟩ k:=fun k=>tt.keeps hR (fun e=>by cases e) (fun e=>by cases e) (fun _ e=>by rw[cn]at e;cases e)
 refine⟨R.mU tt hR rfl rfl (fun k=>.inl (hk k)) (fun s v hs=>.inl hs) (fun k dR hi=>?_) (fun f k b hf hb=>.inl ⟨(fun e=>by cases e),fun _ e=>by rw[cn]at e;cases e⟩)
  (fun k o hi=>.inl ⟨hi,fun _=>⟨fun e=>(by rw[cn]at e;cases e),fun _ e=>(by rw[cn]at e;cases e)⟩⟩),fun v x hx=>hx.mono tt.le fun k=>.inl (hk k)⟩
 have hi:look k ((i,cs++ws)::S.aV)=some dR:=hi;rw[dF]at hi;by_cases kr:i=k
 ·subst kr
  rw[if_pos rfl]at hi;cases hi;refine .inr ⟨cn,fU,hm,_,e,kN,(by rw[B6 (by omega)];exact eT),fun j u hu=>?_⟩
  rw[Ag (by omega) j]
  rw[List.getElem?_append]at hu;split at hu
  ·rename_i br
   rw[if_neg (by omega)]
   obtain⟨q1,z,q2,q3⟩:=hj j u hu;exact⟨q1,z,q2,q3.mono tt.le (fun i=>.inl (hk i))⟩
  ·rename_i br
   have:=eC hu;rw[if_pos (by omega)]
   obtain⟨q1,y,q2,q3⟩:=hw _ u hu;refine⟨?_,y,q2,?_⟩
   ·cases u<;>simp_all[V.plain,V.cz]
   ·have hx:aY (S.cx g w) u y:=.plain q3 (fun f n es he=>by subst he;simp[V.plain]at q1)
    exact hx.mono tt.le (fun i=>.inl (hk i))
 ·rw[if_neg kr]at hi
  exact .inl ⟨hi,(fun e=>by cases e),fun _ e=>kr (by rw[cn]at e;cases e;rfl)⟩
theorem Zs{o:Oper}{t e:TypeId}{nw src:Nat}{sh:Sh}{p q:Operand}{x y:bj}{C:bm}(ho:o.op=.call ⟨.builtin .append,#[p,q],#[t,t]⟩)(ht:P.underlying t=some (.slice e))(he:Oa P e sh.length)
  (hp:bJ p x=true) (hq:bJ q y=true) (hn:S.ez nw) (hR:R E g S a w) (hd:∀d,o.dst=some d→d<E.nt)
  (ah:VO.run C o.dst S (.qK nw src sh x y)=some S'):b0 P E o S S' a w:=by
 obtain⟨⟨i,z,hi,hz,ei,mV,qf⟩,gG⟩:=he;have fW:∀w,(execOp a.eval o).run P w=((Builtin.append_ #[t,t] o.type #[a.eval p,a.eval q]).run P w).andThen fun v w=>.ok (.value v) w:=fun w=>by
  simp[execOp,ho,resolve,invoke,builtin]
 have J2:∀{v:V} {y:Value},v.plain=true→eS w.heap g.m v y→v.cz=true∧(∀d,v.ca d=false)∧aY (S.cx g w) v y:=fun {v y} h1 h2=>by
  refine⟨?_,fun d=>qP ?_,.plain h2 (fun f n es he=>by subst he;simp[V.plain]at h1)⟩
  ·cases v<;>simp_all[V.plain,V.cz]
  ·cases v<;>simp_all[V.plain,V.cj]
   rename_i t _ _;cases t<;>simp_all[V.plain,V.cj]
 have start:∀{b u:V},kj (a.eval p)→aY (S.cx g w) u (a.eval p)→S.ev y=some b→(match S.rows sh b with
   |some ys=>bif ys.isEmpty then some (S.put o.dst u) else
     bif Nat.ble ys.length lim then some ({ S with aV:=(nw,ys.flatten)::S.aV }.put o.dst (.bO nw sh.length ys.length)) else none
   |none=>none)=some S'→b0 P E o S S' a w:=fun {b u} h0 hu hy ah=>by
  split at ah
  ·rename_i ys ko
   have gf:=BY hR (cL hR hq hy) ko;cases AW:ys.isEmpty with
   |true =>
    simp only[AW,cond_true]at ah;cases ah;have:ys=[]:=List.isEmpty_iff.1 AW;subst this;obtain⟨base,cap,e1,_⟩:=B0 gf;refine b0.value (x:=a.eval p) (w':=w) (g':=g) ?_ (hR.put hd hu);rw[fW,e1];simp only[List.length_nil];rcases h0 with h0 | ⟨a0,h0⟩
    ·rw[h0,w9 ht hi none 0 0 (Nat.le_refl _) base cap]
     rfl
    ·rw[h0,w9 ht hi (some a0) 0 0 (Nat.le_refl _) base cap]
     rfl
   |false =>
    simp only[AW,cond_false]at ah;have ch:ys≠[]:=fun e=>by simp[e]at AW
    cases hle:Nat.ble ys.length lim with
    |false=>simp[hle]at ah
    |true =>
     simp only[hle,cond_true]at ah;cases ah;have hle:=Nat.le_of_ble_eq_true hle;rcases gf with⟨rfl,_⟩ | ⟨b,off,cap,l,hy,eu,hc,hl⟩
     ·exact absurd rfl ch
     ·have hlen:0<ys.length:=List.length_pos_iff.2 ch
      have jV:=hl.len;have hr:=Ip (P:=P) (ty:=o.type) (w:=w) ht hi hz h0 (b:=⟨b,off,none⟩) (n:=ys.length) (cap:=cap) (l:=l) (by rw[ei];exact jV) (fun j v hj=>by rw[km,cell?_eq];exact hc j v hj) hlen (by unfold lim at hle;omega) (Nat.le_trans (Nat.mul_le_mul hle qf) (by decide))
      have B3:l.length+(grownCap w ys.length 0 e-ys.length)*z.cells.size=grownCap w ys.length 0 e*sh.length:=by
       rw[jV,mV,← Nat.add_mul];congr 1;have:=@grownCap_le w ys.length 0 e;omega
      obtain⟨f1,f2⟩:=xj hl;obtain⟨g',r1,r2,r3⟩:=hR.newObj (w':=w.drew.alloc (.cells (l.toArray++Builtin.zeroCells z.cells (grownCap w ys.length 0 e-ys.length)) e)) hn rfl rfl rfl rfl (cs:=ys.flatten)
       (cpn:=grownCap w ys.length 0 e*sh.length) (hcpn:=by simp only[Array.size_append,B2,List.size_toArray];omega) (fun j v hj=>by
        obtain⟨q1,y,q2,q3⟩:=f2 j v hj;obtain⟨p1,p2,p3⟩:=J2 q1 q3;exact⟨p1,p2 _,y,by rw[Array.getElem?_append_left (by have:=eC q2;simpa using this)];simpa using q2,p3⟩)
      refine b0.value (x:=.slice (some ⟨w.heap.size,0,none⟩) ys.length (grownCap w ys.length 0 e)) (g':=g') (w':=w.drew.alloc (.cells (l.toArray++Builtin.zeroCells z.cells (grownCap w ys.length 0 e-ys.length)) e)) ?_ (r1.put hd ?_)
      ·rw[fW,hy,hr];rfl
      ·rw[←r2];exact .bO nw _ _ _ grownCap_le r3.symm
  ·cases ah
 simp only[VO.run]at ah;split at ah
 ·rename_i v hx hy
  exact start (.inl (nE (cL hR hp hx))) (cL hR hp hx) hy ah
 ·rename_i n v hx hy
  exact start (qQ (cL hR hp hx)) (cL hR hp hx) hy ah
 ·rename_i id s ln v hx hy
  split at ah
  ·rename_i ys cs ko e9
   cases hc:((id==src)&&(s==sh.length)&&(cs.length==ln*s)&&Nat.ble (ln+ys.length) lim) with
   |false=>simp[hc]at ah
   |true =>
    simp only[hc,cond_true]at ah;cases ah;simp only[Bool.and_eq_true,beq_iff_eq]at hc;obtain⟨⟨⟨rfl,rfl⟩,c9⟩,hle⟩:=hc;have hle:=Nat.le_of_ble_eq_true hle;have gf:=BY hR (cL hR hq hy) ko;have pn:=cL hR hp hx;by_cases FO:g.cp id=0
    ·have yu:ln=0∧kj (a.eval p):=by
      rcases pg pn with⟨cap,h1,h2,e1⟩ | ⟨h1,h2,_⟩
      ·have h2:cap*sh.length=0:=h2.trans FO
       have BZ:cap=0:=by rcases Nat.mul_eq_zero.1 h2 with h|h<;>omega
       subst BZ;have qh:ln=0:=by omega
       exact⟨qh,.inr ⟨_,by rw[e1,qh]⟩⟩
      ·exact⟨h1,h2⟩
     obtain⟨rfl,qi⟩:=yu;have abi:cs=[]:=List.length_eq_zero_iff.1 (by simpa using c9)
     subst abi;simp only[List.nil_append,Nat.zero_add]at hle ⊢;by_cases ch:ys=[]
     ·subst ch
      obtain⟨base,nI,e1,_⟩:=B0 gf;obtain⟨g',r1,r2,_⟩:=hR.Fq hn e9;simp only[List.flatten_nil,List.length_nil];refine b0.value (x:=a.eval p) (g':=g') (w':=w) ?_ (r1.put hd (r2 _ _ _ pn));rw[fW,e1];rcases qi with e2 | ⟨ad,e2⟩
      ·rw[e2,List.length_nil,w9 ht hi none 0 0 (Nat.le_refl _) base nI];rfl
      ·rw[e2,List.length_nil,w9 ht hi (some ad) 0 0 (Nat.le_refl _) base nI];rfl
     ·rcases gf with⟨rfl,_⟩ | ⟨b,off,cap,l,hy,eu,hc,hl⟩
      ·exact absurd rfl ch
      ·have hlen:0<ys.length:=List.length_pos_iff.2 ch
       have jV:=hl.len;have hr:=Ip (P:=P) (ty:=o.type) (w:=w) ht hi hz qi (b:=⟨b,off,none⟩) (n:=ys.length) (cap:=cap) (l:=l) (by rw[ei];exact jV) (fun j v hj=>by rw[km,cell?_eq];exact hc j v hj) hlen (by unfold lim at hle;omega) (Nat.le_trans (Nat.mul_le_mul hle qf) (by decide))
       have B3:l.length+(grownCap w ys.length 0 e-ys.length)*z.cells.size=grownCap w ys.length 0 e*sh.length:=by
        rw[jV,mV,← Nat.add_mul];congr 1;have:=@grownCap_le w ys.length 0 e;omega
       obtain⟨f1,f2⟩:=xj hl;have vA:({ S with aV:=S.aV.filter fun p => !(p.1==id) }:St).ez nw:=by
        refine⟨hn.env,fun k dR hk=>?_,?_,hn.tok⟩
        ·rw[qV]at hk
         split at hk
         ·cases hk
         ·exact hn.aV k dR hk
        ·rw[qV]
         split
         ·rfl
         ·exact hn.obj
       obtain⟨g',r1,r2,r3⟩:=(hR.drop id).newObj (w':=w.drew.alloc (.cells (l.toArray++Builtin.zeroCells z.cells (grownCap w ys.length 0 e-ys.length)) e)) vA rfl rfl rfl rfl (cs:=ys.flatten)
        (cpn:=grownCap w ys.length 0 e*sh.length) (hcpn:=by simp only[Array.size_append,B2,List.size_toArray];omega) (fun j v hj=>by
         obtain⟨q1,y,q2,q3⟩:=f2 j v hj;obtain⟨p1,p2,p3⟩:=J2 q1 q3;exact⟨p1,p2 _,y,by rw[Array.getElem?_append_left (by have:=eC q2;simpa using this)];simpa using q2,p3⟩)
       refine b0.value (x:=.slice (some ⟨w.heap.size,0,none⟩) ys.length (grownCap w ys.length 0 e)) (g':=g') (w':=w.drew.alloc (.cells (l.toArray++Builtin.zeroCells z.cells (grownCap w ys.length 0 e-ys.length)) e)) ?_ (r1.put hd ?_)
       ·rw[fW,hy,hr];rfl
       ·rw[←r2];exact .bO nw _ _ _ grownCap_le r3.symm
    obtain⟨cn,fU,hm,c,et,hh,eT,hj⟩:=(hR.aV id cs e9).resolve_left (fun h=>FO h.2);obtain⟨cap,eu,J3,hex⟩:=(pg pn).resolve_right (fun h=>FO h.2.2);have J3:cap*sh.length=g.cp id:=J3;have hex:a.eval p=.slice (some ⟨g.κ id,0,none⟩) ln cap:=hex;have hc:cs.length≤c.size:=by
     rcases Nat.lt_or_ge c.size cs.length with h|h
     ·obtain⟨_,y,hy,_⟩:=hj c.size cs[c.size] (List.getElem?_eq_getElem h)
      simp at hy
     ·exact h
    have fy:cap*sh.length≤c.size:=by omega
    by_cases ch:ys=[]
    ·subst ch
     obtain⟨base,nI,e1,_⟩:=B0 gf;obtain⟨g',r1,r2,_⟩:=hR.Fq hn e9;simp only[List.flatten_nil,List.append_nil,List.length_nil,Nat.add_zero];refine b0.value (x:=a.eval p) (g':=g') (w':=w) ?_ (r1.put hd (r2 _ _ _ pn));rw[fW,e1,hex];simp only[List.length_nil];rw[w9 ht hi _ ln cap eu base nI];rfl
    ·rcases gf with⟨rfl,_⟩ | ⟨b',off',nI,l,vB,hcap',uK,hl⟩
     ·exact absurd rfl ch
     ·have hlen:0<ys.length:=List.length_pos_iff.2 ch
      have jV:=hl.len;obtain⟨f1,f2⟩:=xj hl;have B5:∀(j:Nat) (v:Value),l[j]?=some v→w.cell? ((⟨b',off',none⟩:Addr).add j)=some v:=fun j v hj=>by rw[km,cell?_eq];exact uK j v hj
      by_cases Ad:ln+ys.length≤cap
      ·have h2:(ln+ys.length)*sh.length≤cap*sh.length:=Nat.mul_le_mul_right _ Ad
       rw[Nat.add_mul]at h2;have hr:=run_append_room (P:=P) (ty:=o.type) ht hi (l:=l) (by rw[ei];exact jV) B5 Ad (cap:=nI) hh (off:=0) (by rw[ei];omega) hl.yr
       rw[ei,Nat.zero_add,← c9]at hr;obtain⟨r1,r2⟩:=hR.grown e9 hh (by omega) f2 f1 FO
       have vA:({ S with aV:=(id,cs++ys.flatten)::S.aV }:St).ez nw:=by
        refine⟨hn.env,fun k dR hk=>?_,?_,hn.tok⟩
        ·rw[dF]at hk
         split at hk
         ·cases hk
          intro u hu;rcases List.mem_append.1 hu with h|h
          ·exact hn.aV id cs e9 u h
          ·obtain⟨j,sD⟩:=List.mem_iff_getElem?.1 h
           obtain⟨q1,_⟩:=f2 j u sD;exact I8 q1
         ·exact hn.aV k dR hk
        ·rw[dF,if_neg (fun e=>by subst e;rw[hn.obj]at e9;cases e9)];exact hn.obj
       obtain⟨g',r3,r4,_⟩:=r1.Fq vA (i:=id) (cs:=cs++ys.flatten) (by rw[dF,if_pos rfl])
       have r5:R E g' { S with aV:=(nw,cs++ys.flatten)::S.aV.filter fun p => !(p.1==id) } a (w.setRow (g.κ id) (c.toList.take cs.length++l++c.toList.drop (cs.length+l.length)).toArray):=by
        have:(((id,cs++ys.flatten)::S.aV).filter fun p => !(p.1==id))=S.aV.filter fun p => !(p.1==id):=by simp[List.filter]
        rw[←this];exact r3
       refine b0.value (x:=.slice (some ⟨g.κ id,0,none⟩) (ln+ys.length) cap) (g':=g') (w':=w.setRow (g.κ id) (c.toList.take cs.length++l++c.toList.drop (cs.length+l.length)).toArray) ?_ (r5.put hd (r4 _ _ _ ?_))
       ·rw[fW,hex,vB,hr];rfl
       ·exact .bO id _ _ cap Ad J3
      ·have Ir:(ln+ys.length)*i.bytes≤140737488355328:=Nat.le_trans (Nat.mul_le_mul hle qf) (by decide)
       have qh:(c.toList.take cs.length).length=ln*i.size:=by rw[ei,← c9];simp;omega
       have hr:=run_append_grow (P:=P) w t o.type e i z ht hi hz ⟨g.κ id,0,none⟩ ln cap (c.toList.take cs.length) qh (fun j v hj=>by
         rw[km,cell?_eq,kM hh,Nat.zero_add];rw[List.getElem?_take]at hj;split at hj
         ·simpa using hj
         ·cases hj)
        ⟨b',off',none⟩ ys.length nI l (by rw[ei];exact jV) B5 (by omega) (by unfold lim at hle;omega) (growslice_fits (by omega) Ir)
       have EZ:(c.toList.take cs.length).length=cs.length:=by simp;omega
       have B3:cs.length+l.length+(grownCap w (ln+ys.length) cap e-(ln+ys.length))*z.cells.size=grownCap w (ln+ys.length) cap e*sh.length:=by
        rw[c9,jV,mV,← Nat.add_mul,← Nat.add_mul];congr 1;have:=@grownCap_le w (ln+ys.length) cap e;omega
       have vA:({ S with aV:=S.aV.filter fun p => !(p.1==id) }:St).ez nw:=by
        refine⟨hn.env,fun k dR hk=>?_,?_,hn.tok⟩
        ·rw[qV]at hk
         split at hk
         ·cases hk
         ·exact hn.aV k dR hk
        ·rw[qV]
         split
         ·rfl
         ·exact hn.obj
       obtain⟨g',r1,r2,r3⟩:=(hR.drop id).newObj (w':=w.drew.alloc (.cells ((c.toList.take cs.length).toArray++l.toArray++Builtin.zeroCells z.cells (grownCap w (ln+ys.length) cap e-(ln+ys.length))) e)) vA rfl rfl rfl rfl
        (cs:=cs++ys.flatten) (cpn:=grownCap w (ln+ys.length) cap e*sh.length) (hcpn:=by simp only[Array.size_append,B2,List.size_toArray];omega) (fun j v pt=>by
         rw[List.getElem?_append]at pt;split at pt
         ·rename_i br
          obtain⟨q1,y,q2,q3⟩:=hj j v pt;refine⟨q1,qP (hn.aV id cs e9 v (List.mem_of_getElem? pt)),y,?_,q3⟩;rw[Array.getElem?_append_left (by simp;omega),Array.getElem?_append_left (by simp;omega)]
          simp only[List.getElem?_toArray,List.getElem?_take,br,if_true];simpa using q2
         ·rename_i br
          obtain⟨q1,y,q2,q3⟩:=f2 _ v pt;obtain⟨p1,p2,p3⟩:=J2 q1 q3;have:=eC q2;refine⟨p1,p2 _,y,?_,p3⟩;rw[Array.getElem?_append_left (by simp;omega),Array.getElem?_append_right (by simp;omega)]
          simp only[List.size_toArray,EZ];simpa using q2)
       refine b0.value (x:=.slice (some ⟨w.heap.size,0,none⟩) (ln+ys.length) (grownCap w (ln+ys.length) cap e)) (g':=g')
        (w':=w.drew.alloc (.cells ((c.toList.take cs.length).toArray++l.toArray++Builtin.zeroCells z.cells (grownCap w (ln+ys.length) cap e-(ln+ys.length))) e)) ?_ (r1.put hd ?_)
       ·rw[fW,hex,vB,hr];rfl
       ·rw[←r2];exact .bO nw _ _ _ grownCap_le r3.symm
  ·cases ah
 ·cases ah
end
end Go.Vm
