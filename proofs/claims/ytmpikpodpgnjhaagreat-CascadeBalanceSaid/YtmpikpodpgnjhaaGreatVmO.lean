/- The value machine, 9b: local objects that grow. -/
import Derived.Test.YtmpikpodpgnjhaaGreatVm9
namespace Go.Vm
set_option linter.all false
section
variable {P:Program} {E:Entry} {g g':Gh} {S S':St} {a:Act} {w w':World}
theorem rn{α:Type}{s d:Nat}:∀{l:List (Nat×α)},look s (l.filter fun p => !(p.1==d))=if s=d then none else look s l
 |[]=>by simp[look]
 |(k,v)::l=>by
  have ih:=rn (s:=s) (d:=d) (l:=l);cases h:k==d with
  |true =>
   have:=eq_of_beq h;subst this;simp only[List.filter,h,Bool.not_true];rw[ih,dQ];by_cases hs:s=k
   ·simp[hs]
   ·rw[if_neg hs,if_neg hs,if_neg (fun e=>hs e.symm)]
  |false =>
   simp only[List.filter,h,Bool.not_false];rw[dQ,dQ,ih];by_cases hk:k=s
   ·subst hk
    have:k≠d:=by simpa using h
    simp[this]
   ·rw[if_neg hk,if_neg hk]
theorem Jg{v:V}{d:Nat}(h:v.plain=true):v.cI d=false:=by
 cases v<;>simp_all[V.plain,V.cI];rename_i t _ _;cases t<;>simp_all[V.plain,V.cI]
theorem R.drop(hR:R E g S a w)(d:Nat):R E g { S with bb:=S.bb.filter fun p => !(p.1==d) } a w :=
 ⟨hR.env,fun id cs ho=>by
  have ho:look id (S.bb.filter fun p => !(p.1==d))=some cs:=ho;rw[rn]at ho;split at ho
  ·cases ho
  ·exact hR.bb id cs ho,hR.bm,hR.az,hR.defers,hR.jy,hR.same⟩
theorem R.JB(hR:R E g S a w){id:Nat}(hn:S.eR id)(k:Nat):∃g',R E g' { S with bb:=(id,[])::S.bb } a w∧g'.κ id=k∧g'.cp id=0∧∀v x,bj (S.cx g w) v x→v.cu id=false→bj (S.cx g' w) v x:=by
 let g':Gh:={ g with κ:=c7 g.κ id k,cp:=c7 g.cp id 0 }
 have t:Touch E g S w g' S.bm S.az.length w w.heap.size (some id) none :=
  {os:=rfl,tape:=rfl,output:=rfl,size:=Nat.le_refl _,heap:=fun _ _ _=>rfl,m:=fun _ _=>rfl,ow:=fun _ _=>rfl,κ:=fun i hi=>gP _ _ (fun e=>hi (by rw[e])),cp:=fun i hi=>gP _ _ (fun e=>hi (by rw[e])),
   τ:=fun _ _=>rfl,T:=fun _ _=>rfl,γ:=fun _ _=>rfl,fb:=Nat.le_refl _,
   γnew:=fun i a b=>absurd a (by omega),fresh:=.inl hR.same.size,ig:=fun _ _ h _=>absurd hR.same.size (Nat.not_le_of_lt h),lv:=fun i h=>hR.z8 h (Nat.le_refl _),jk:=fun _ _ _ hy=>hy,oC:=fun h=>absurd h (Nat.lt_irrefl _) }
 have kJ:∀i,iP (S.cx g w) ⟨w.heap,g',S.az.length,S.bm⟩ i∨i=id:=fun i=>by
  by_cases hi:i=id
  ·exact .inr hi
  ·exact .inl (t.keeps hR (fun e=>hi (by cases e;rfl)) (fun e=>by cases e) (fun h=>absurd h (Nat.lt_irrefl _)))
 have r1:R E g' S a w:=R.nf t hR rfl rfl (fun i=>(kJ i).imp (fun z=>z) fun e=>by rw[e];exact hn) (fun s v hs=>.inl hs) (fun i cs ho=>.inl ⟨ho,(fun e=>by cases e;rw[hn.obj]at ho;cases ho),fun h=>absurd h (Nat.lt_irrefl _)⟩)
  (fun i k b hi hb=>.inl ⟨(fun e=>by cases e),fun h=>absurd h (Nat.lt_irrefl _)⟩) (fun i o ho=>.inl ⟨ho,fun h=>absurd h (Nat.lt_irrefl _)⟩)
 refine⟨g',⟨r1.env,fun i cs hi=>?_,r1.bm,r1.az,r1.defers,r1.jy,r1.same⟩,dP _ _ _,dP _ _ _,fun v x hx hv=>hx.mono t.le fun i=>(kJ i).imp (fun z=>z) fun e=>by rw[e];exact hv⟩
 have hi:look i ((id,[])::S.bb)=some cs:=hi;rw[dQ]at hi;by_cases j9:id=i
 ·subst j9
  rw[if_pos rfl]at hi;cases hi;exact .inl ⟨rfl,dP _ _ _⟩
 ·rw[if_neg j9]at hi
  exact r1.bb i cs hi
theorem R.Fv(hR:R E g S a w){i b:Nat}{cs:List V}(hn:S.eR b)(ho:look i S.bb=some cs) :
  ∃g',R E g' { S with bb:=(b,cs)::S.bb.filter fun p => !(p.1==i) } a w∧(∀s n x,bj (S.cx g w) (.cb i s n) x→bj (S.cx g' w) (.cb b s n) x) ∧
   ∀v x,bj (S.cx g w) v x→v.cu b=false→bj (S.cx g' w) v x:=by
 have ZA:i≠b:=fun h=>by subst h;rw[hn.obj]at ho;cases ho
 rcases hR.bb i cs ho with⟨h0,um⟩ | ⟨cJ,gG,hm,c,e,hh,fH,hj⟩
 ·subst h0
  obtain⟨g',r1,r2,r3,r4⟩:=(hR.drop i).JB (id:=b) ⟨hn.env,fun k cs hk=>by
   have hk:look k (S.bb.filter fun p => !(p.1==i))=some cs:=hk;rw[rn]at hk;split at hk
   ·cases hk
   ·exact hn.bb k cs hk,by show look b (S.bb.filter fun p => !(p.1==i))=none;rw[rn,if_neg (fun e=>ZA e.symm)];exact hn.obj,hn.tok⟩ (g.κ i)
  refine⟨g',r1,fun s n x hx=>?_,fun v x hx hv=>r4 v x hx hv⟩;rcases pJ hx with⟨cap,h1,h2,rfl⟩ | ⟨rfl,hz,_⟩
  ·have e1:(S.cx g w).g.κ i=(S.cx g' w).g.κ b:=r2.symm
   rw[e1];exact .cb b s n cap h1 ((h2.trans um).trans r3.symm)
  ·exact .qo _ _ hz r3
 let g':Gh:={ g with κ:=c7 g.κ b (g.κ i),cp:=c7 g.cp b (g.cp i),ow:=c7 g.ow (g.κ i) (.obj b) }
 have bG:g.κ i<w.heap.size:=by
  rcases Nat.lt_or_ge (g.κ i) w.heap.size with h|h
  ·exact h
  ·simp[Array.getElem?_eq_none h]at hh
 have t:Touch E g S w g' S.bm S.az.length w (g.κ i) (some b) none :=
  {os:=rfl,tape:=rfl,output:=rfl,size:=Nat.le_refl _,heap:=fun _ _ _=>rfl,m:=fun _ _=>rfl,ow:=fun k hk=>gP _ _ hk,κ:=fun k hk=>gP _ _ (fun e=>hk (by rw[e])),
   cp:=fun k hk=>gP _ _ (fun e=>hk (by rw[e])),τ:=fun _ _=>rfl,T:=fun _ _=>rfl,
   γ:=fun _ _=>rfl,fb:=Nat.le_refl _,γnew:=fun k h1 h2=>absurd h1 (by omega),fresh:=.inl gG,ig:=fun p q _ e=>by(have e:c7 g.ow (g.κ i) (.obj b) (g.κ i)=.cell p q:=e);rw[dP]at e;exact nomatch e
   lv:=fun k e=>by(have e:c7 g.ow (g.κ i) (.obj b) (g.κ i)=.az k:=e);rw[dP]at e;exact nomatch e
   jk:=fun _ _ _ h=>h,oC:=fun _=>Nat.le_refl _ }
 have hk:∀k,iP (S.cx g w) ⟨w.heap,g',S.az.length,S.bm⟩ k∨k=b:=fun k=>by
  by_cases h:k=b
  ·exact .inr h
  ·exact .inl (t.keeps hR (fun e=>h (by cases e;rfl)) (fun e=>by cases e) (fun _ e=>by rw[cJ]at e;cases e))
 refine⟨g',R.nf t hR rfl rfl (fun k=>(hk k).imp (fun z=>z) fun e=>by rw[e];exact hn) (fun s v hs=>.inl hs) (fun k ek hi=>?_) (fun f k q hf hq=>.inl ⟨(fun e=>by cases e),fun _ e=>by rw[cJ]at e;cases e⟩)
  (fun k o hi=>.inl ⟨hi,fun _=>⟨fun e=>(by rw[cJ]at e;cases e),fun _ e=>(by rw[cJ]at e;cases e)⟩⟩),fun s n x hx=>?_,fun v x hx hv=>hx.mono t.le fun k=>(hk k).imp (fun z=>z) fun e=>by rw[e];exact hv⟩
 ·have hi:look k ((b,cs)::S.bb.filter fun p => !(p.1==i))=some ek:=hi
  rw[dQ]at hi;by_cases Ka:b=k
  ·subst Ka
   rw[if_pos rfl]at hi;cases hi;refine .inr ⟨?_,?_,?_,c,e,?_,?_,fun j v hv=>?_⟩
   ·show c7 g.ow _ _ (c7 g.κ _ _ _)=_;rw[dP,dP]
   ·show _≤c7 g.κ _ _ _;rw[dP];exact gG
   ·show g.m (c7 g.κ _ _ _)=_;rw[dP];exact hm
   ·show w.heap[c7 g.κ _ _ _]?=_;rw[dP];exact hh
   ·show c7 g.cp _ _ _≤_;rw[dP];exact fH
   ·obtain⟨q1,y,q2,q3⟩:=hj j v hv
    exact⟨q1,y,q2,q3.mono t.le fun k=>(hk k).imp (fun z=>z) fun e=>by rw[e];exact rf (hn.bb i cs ho v (List.mem_of_getElem? hv))⟩
  ·rw[if_neg Ka,rn]at hi
   split at hi
   ·cases hi
   ·rename_i ZB
    exact .inl ⟨hi,(fun e=>Ka (by cases e;rfl)),fun _ e=>ZB (by rw[cJ]at e;cases e;rfl)⟩
 ·rcases pJ hx with⟨cap,h,hc,rfl⟩ | ⟨rfl,hz,h0⟩
  ·have e1:(S.cx g w).g.κ i=(S.cx g' w).g.κ b:=(dP g.κ b (g.κ i)).symm
   rw[e1];exact .cb b s n cap h (hc.trans (dP g.cp b (g.cp i)).symm)
  ·exact .qo _ _ hz ((dP g.cp b (g.cp i)).trans h0)
theorem wX{h:Array Obj}{m:Nat→Nat}{n:Nat}:∀{ys:List (List V)} {l:List Value},jm h m n ys l→ys.flatten.length=l.length∧∀(j:Nat) (v:V),ys.flatten[j]?=some v→v.plain=true∧∃y,l[j]?=some y∧fp h m v y
 |[],l,hr=>by
  have:=hr.len;simp at this;subst this;simp
 |r::ys,l,hr=>by
  have hl:=hr.len;simp only[List.length_cons,Nat.succ_mul]at hl;have yh:=hr.row 0 r rfl;have ht:jm h m n ys (l.drop n):=⟨by simp[hl],fun i row hi=>hr.row (i+1) row (by simpa using hi),fun i row j v hi hj=>by
   obtain⟨p,y,q,s⟩:=hr.cell (i+1) row j v (by simpa using hi) hj
   refine⟨p,y,?_,s⟩;rw[List.getElem?_drop,← q,Nat.succ_mul];congr 1;omega⟩
  obtain⟨h1,h2⟩:=wX ht;refine⟨by simp only[List.flatten_cons,List.length_append,h1,List.length_drop,yh];omega,fun j v hv=>?_⟩
  rw[List.flatten_cons,List.getElem?_append]at hv;split at hv
  ·obtain⟨p,y,q,s⟩:=hr.cell 0 r j v rfl hv
   exact⟨p,y,by simpa using q,s⟩
  ·rename_i bG
   obtain⟨p,y,q,s⟩:=h2 _ v hv;refine⟨p,y,?_,s⟩;rw[List.getElem?_drop,yh]at q;rw[←q];congr 1;omega
theorem R.grown(hR:R E g S a w){i:Nat}{cs ws:List V}{l:List Value}{c:Array Value}{e:TypeId}(ho:look i S.bb=some cs)(hh:w.heap[g.κ i]?=some (.cells c e (0,0)))(fX:cs.length+l.length≤c.size)
  (hw:∀(j:Nat) (v:V),ws[j]?=some v→v.plain=true∧∃y,l[j]?=some y∧fp w.heap g.m v y) (hlen:ws.length=l.length) (cF:g.cp i≠0) :
  R E g { S with bb:=(i,cs++ws)::S.bb } a (w.setRow (g.κ i) (c.toList.take cs.length++l++c.toList.drop (cs.length+l.length)).toArray) ∧
    ∀v x,bj (S.cx g w) v x→bj (S.cx g (w.setRow (g.κ i) (c.toList.take cs.length++l++c.toList.drop (cs.length+l.length)).toArray)) v x:=by
 obtain⟨cJ,gG,hm,c0,e0,wU,fH,hj⟩:=(hR.bb i cs ho).resolve_left (fun h=>cF h.2);rw[hh]at wU;cases wU;have lj:=setRow_heap w _ c (c.toList.take cs.length++l++c.toList.drop (cs.length+l.length)).toArray e _ hh;have tt:=Cj (c':=(c.toList.take cs.length++l++c.toList.drop (cs.length+l.length)).toArray) (S:=S) (w:=w) hm (.inl gG) (fun _ _ e=>by rw[cJ]at e;cases e) hR
 have hk:∀k,iP (S.cx g w) ⟨(w.setRow (g.κ i) (c.toList.take cs.length++l++c.toList.drop (cs.length+l.length)).toArray).heap,g,S.az.length,S.bm⟩ k:=fun k=>tt.keeps hR (fun e=>by cases e) (fun e=>by cases e) (fun _ e=>by rw[cJ]at e;cases e)
 refine⟨R.nf tt hR rfl rfl (fun k=>.inl (hk k)) (fun s v hs=>.inl hs) (fun k ek hi=>?_) (fun f k b hf hb=>.inl ⟨(fun e=>by cases e),fun _ e=>by rw[cJ]at e;cases e⟩)
  (fun k o hi=>.inl ⟨hi,fun _=>⟨fun e=>(by rw[cJ]at e;cases e),fun _ e=>(by rw[cJ]at e;cases e)⟩⟩),fun v x hx=>hx.mono tt.le fun k=>.inl (hk k)⟩
 have hi:look k ((i,cs++ws)::S.bb)=some ek:=hi;rw[dQ]at hi;by_cases kL:i=k
 ·subst kL
  rw[if_pos rfl]at hi;cases hi;refine .inr ⟨cJ,gG,hm,_,e,lj,(by rw[Ci (by omega)];exact fH),fun j u hu=>?_⟩
  rw[Ag (by omega) j]
  rw[List.getElem?_append]at hu;split at hu
  ·rename_i bG
   rw[if_neg (by omega)]
   obtain⟨q1,z,q2,q3⟩:=hj j u hu;exact⟨q1,z,q2,q3.mono tt.le (fun i=>.inl (hk i))⟩
  ·rename_i bG
   have:=eZ hu;rw[if_pos (by omega)]
   obtain⟨q1,y,q2,q3⟩:=hw _ u hu;refine⟨?_,y,q2,?_⟩
   ·cases u<;>simp_all[V.plain,V.cM]
   ·have hx:bj (S.cx g w) u y:=.plain q3 (fun f n es he=>by subst he;simp[V.plain]at q1)
    exact hx.mono tt.le (fun i=>.inl (hk i))
 ·rw[if_neg kL]at hi
  exact .inl ⟨hi,(fun e=>by cases e),fun _ e=>kL (by rw[cJ]at e;cases e;rfl)⟩
theorem XL{o:Oper}{t e:TypeId}{nw src:Nat}{sh:Sh}{p q:Operand}{x y:bB}{C:bC}(ho:o.op=.call ⟨.builtin .append,#[p,q],#[t,t]⟩)(ht:P.underlying t=some (.slice e))(he:Of P e sh.length)
  (hp:bX p x=true) (hq:bX q y=true) (hn:S.eR nw) (hR:R E g S a w) (hd:∀d,o.dst=some d→d<E.nt)
  (aj:VO.run C o.dst S (.m9 nw src sh x y)=some S'):ct P E o S S' a w:=by
 obtain⟨⟨i,z,hi,hz,eH,nh,qu⟩,hH⟩:=he;have gI:∀w,(execOp a.eval o).run P w=((Builtin.append_ #[t,t] o.type #[a.eval p,a.eval q]).run P w).andThen fun v w=>.ok (.value v) w:=fun w=>by
  simp[execOp,ho,resolve,invoke,builtin]
 have Kb:∀{v:V} {y:Value},v.plain=true→fp w.heap g.m v y→v.cM=true∧(∀d,v.cu d=false)∧bj (S.cx g w) v y:=fun {v y} h1 h2=>by
  refine⟨?_,fun d=>rf ?_,.plain h2 (fun f n es he=>by subst he;simp[V.plain]at h1)⟩
  ·cases v<;>simp_all[V.plain,V.cM]
  ·cases v<;>simp_all[V.plain,V.cI]
   rename_i t _ _;cases t<;>simp_all[V.plain,V.cI]
 have start:∀{b u:V},kG (a.eval p)→bj (S.cx g w) u (a.eval p)→S.ev y=some b→(match S.rows sh b with
   |some ys=>bif ys.isEmpty then some (S.put o.dst u) else
     bif Nat.ble ys.length lim then some ({ S with bb:=(nw,ys.flatten)::S.bb }.put o.dst (.cb nw sh.length ys.length)) else none
   |none=>none)=some S'→ct P E o S S' a w:=fun {b u} h0 hu hy aj=>by
  split at aj
  ·rename_i ys kK
   have gQ:=B9 hR (cZ hR hq hy) kK;cases AV:ys.isEmpty with
   |true =>
    simp only[AV,cond_true]at aj;cases aj;have:ys=[]:=List.isEmpty_iff.1 AV;subst this;obtain⟨base,cap,e1,_⟩:=Cb gQ;refine ct.value (x:=a.eval p) (w':=w) (g':=g) ?_ (hR.put hd hu);rw[gI,e1];simp only[List.length_nil];rcases h0 with h0 | ⟨a0,h0⟩
    ·rw[h0,wL ht hi none 0 0 (Nat.le_refl _) base cap]
     rfl
    ·rw[h0,wL ht hi (some a0) 0 0 (Nat.le_refl _) base cap]
     rfl
   |false =>
    simp only[AV,cond_false]at aj;have cF:ys≠[]:=fun e=>by simp[e]at AV
    cases hle:Nat.ble ys.length lim with
    |false=>simp[hle]at aj
    |true =>
     simp only[hle,cond_true]at aj;cases aj;have hle:=Nat.le_of_ble_eq_true hle;rcases gQ with⟨rfl,_⟩ | ⟨b,off,cap,l,hy,eP,hc,hl⟩
     ·exact absurd rfl cF
     ·have hlen:0<ys.length:=List.length_pos_iff.2 cF
      have km:=hl.len;have hr:=Iu (P:=P) (ty:=o.type) (w:=w) ht hi hz h0 (b:=⟨b,off,none⟩) (n:=ys.length) (cap:=cap) (l:=l) (by rw[eH];exact km) (fun j v hj=>by rw[kI,cell?_eq];exact hc j v hj) hlen (by unfold lim at hle;omega) (Nat.le_trans (Nat.mul_le_mul hle qu) (by decide))
      have Ce:l.length+(grownCap w ys.length 0 e-ys.length)*z.cells.size=grownCap w ys.length 0 e*sh.length:=by
       rw[km,nh,← Nat.add_mul];congr 1;have:=@grownCap_le w ys.length 0 e;omega
      obtain⟨f1,f2⟩:=wX hl;obtain⟨g',r1,r2,r3⟩:=hR.newObj (w':=w.drew.alloc (.cells (l.toArray++Builtin.zeroCells z.cells (grownCap w ys.length 0 e-ys.length)) e)) hn rfl rfl rfl rfl (cs:=ys.flatten)
       (cpn:=grownCap w ys.length 0 e*sh.length) (hcpn:=by simp only[Array.size_append,Cd,List.size_toArray];omega) (fun j v hj=>by
        obtain⟨q1,y,q2,q3⟩:=f2 j v hj;obtain⟨p1,p2,p3⟩:=Kb q1 q3;exact⟨p1,p2 _,y,by rw[Array.getElem?_append_left (by have:=eZ q2;simpa using this)];simpa using q2,p3⟩)
      refine ct.value (x:=.slice (some ⟨w.heap.size,0,none⟩) ys.length (grownCap w ys.length 0 e)) (g':=g') (w':=w.drew.alloc (.cells (l.toArray++Builtin.zeroCells z.cells (grownCap w ys.length 0 e-ys.length)) e)) ?_ (r1.put hd ?_)
      ·rw[gI,hy,hr];rfl
      ·rw[←r2];exact .cb nw _ _ _ grownCap_le r3.symm
  ·cases aj
 simp only[VO.run]at aj;split at aj
 ·rename_i v hx hy
  exact start (.inl (nV (cZ hR hp hx))) (cZ hR hp hx) hy aj
 ·rename_i n v hx hy
  exact start (rh (cZ hR hp hx)) (cZ hR hp hx) hy aj
 ·rename_i id s ln v hx hy
  split at aj
  ·rename_i ys cs kK fE
   cases hc:((id==src)&&(s==sh.length)&&(cs.length==ln*s)&&Nat.ble (ln+ys.length) lim) with
   |false=>simp[hc]at aj
   |true =>
    simp only[hc,cond_true]at aj;cases aj;simp only[Bool.and_eq_true,beq_iff_eq]at hc;obtain⟨⟨⟨rfl,rfl⟩,dD⟩,hle⟩:=hc;have hle:=Nat.le_of_ble_eq_true hle;have gQ:=B9 hR (cZ hR hq hy) kK;have pN:=cZ hR hp hx;by_cases FT:g.cp id=0
    ·have xO:ln=0∧kG (a.eval p):=by
      rcases pJ pN with⟨cap,h1,h2,e1⟩ | ⟨h1,h2,_⟩
      ·have h2:cap*sh.length=0:=h2.trans FT
       have Ca:cap=0:=by rcases Nat.mul_eq_zero.1 h2 with h|h<;>omega
       subst Ca;have qx:ln=0:=by omega
       exact⟨qx,.inr ⟨_,by rw[e1,qx]⟩⟩
      ·exact⟨h1,h2⟩
     obtain⟨rfl,qy⟩:=xO;have ZC:cs=[]:=List.length_eq_zero_iff.1 (by simpa using dD)
     subst ZC;simp only[List.nil_append,Nat.zero_add]at hle ⊢;by_cases cF:ys=[]
     ·subst cF
      obtain⟨base,nZ,e1,_⟩:=Cb gQ;obtain⟨g',r1,r2,_⟩:=hR.Fv hn fE;simp only[List.flatten_nil,List.length_nil];refine ct.value (x:=a.eval p) (g':=g') (w':=w) ?_ (r1.put hd (r2 _ _ _ pN));rw[gI,e1];rcases qy with e2 | ⟨ad,e2⟩
      ·rw[e2,List.length_nil,wL ht hi none 0 0 (Nat.le_refl _) base nZ];rfl
      ·rw[e2,List.length_nil,wL ht hi (some ad) 0 0 (Nat.le_refl _) base nZ];rfl
     ·rcases gQ with⟨rfl,_⟩ | ⟨b,off,cap,l,hy,eP,hc,hl⟩
      ·exact absurd rfl cF
      ·have hlen:0<ys.length:=List.length_pos_iff.2 cF
       have km:=hl.len;have hr:=Iu (P:=P) (ty:=o.type) (w:=w) ht hi hz qy (b:=⟨b,off,none⟩) (n:=ys.length) (cap:=cap) (l:=l) (by rw[eH];exact km) (fun j v hj=>by rw[kI,cell?_eq];exact hc j v hj) hlen (by unfold lim at hle;omega) (Nat.le_trans (Nat.mul_le_mul hle qu) (by decide))
       have Ce:l.length+(grownCap w ys.length 0 e-ys.length)*z.cells.size=grownCap w ys.length 0 e*sh.length:=by
        rw[km,nh,← Nat.add_mul];congr 1;have:=@grownCap_le w ys.length 0 e;omega
       obtain⟨f1,f2⟩:=wX hl;have u7:({ S with bb:=S.bb.filter fun p => !(p.1==id) }:St).eR nw:=by
        refine⟨hn.env,fun k ek hk=>?_,?_,hn.tok⟩
        ·rw[rn]at hk
         split at hk
         ·cases hk
         ·exact hn.bb k ek hk
        ·rw[rn]
         split
         ·rfl
         ·exact hn.obj
       obtain⟨g',r1,r2,r3⟩:=(hR.drop id).newObj (w':=w.drew.alloc (.cells (l.toArray++Builtin.zeroCells z.cells (grownCap w ys.length 0 e-ys.length)) e)) u7 rfl rfl rfl rfl (cs:=ys.flatten)
        (cpn:=grownCap w ys.length 0 e*sh.length) (hcpn:=by simp only[Array.size_append,Cd,List.size_toArray];omega) (fun j v hj=>by
         obtain⟨q1,y,q2,q3⟩:=f2 j v hj;obtain⟨p1,p2,p3⟩:=Kb q1 q3;exact⟨p1,p2 _,y,by rw[Array.getElem?_append_left (by have:=eZ q2;simpa using this)];simpa using q2,p3⟩)
       refine ct.value (x:=.slice (some ⟨w.heap.size,0,none⟩) ys.length (grownCap w ys.length 0 e)) (g':=g') (w':=w.drew.alloc (.cells (l.toArray++Builtin.zeroCells z.cells (grownCap w ys.length 0 e-ys.length)) e)) ?_ (r1.put hd ?_)
       ·rw[gI,hy,hr];rfl
       ·rw[←r2];exact .cb nw _ _ _ grownCap_le r3.symm
    obtain⟨cJ,gG,hm,c,et,hh,fH,hj⟩:=(hR.bb id cs fE).resolve_left (fun h=>FT h.2);obtain⟨cap,eP,Kc,hex⟩:=(pJ pN).resolve_right (fun h=>FT h.2.2);have Kc:cap*sh.length=g.cp id:=Kc;have hex:a.eval p=.slice (some ⟨g.κ id,0,none⟩) ln cap:=hex;have hc:cs.length≤c.size:=by
     rcases Nat.lt_or_ge c.size cs.length with h|h
     ·obtain⟨_,y,hy,_⟩:=hj c.size cs[c.size] (List.getElem?_eq_getElem h)
      simp at hy
     ·exact h
    have fX:cap*sh.length≤c.size:=by omega
    by_cases cF:ys=[]
    ·subst cF
     obtain⟨base,nZ,e1,_⟩:=Cb gQ;obtain⟨g',r1,r2,_⟩:=hR.Fv hn fE;simp only[List.flatten_nil,List.append_nil,List.length_nil,Nat.add_zero];refine ct.value (x:=a.eval p) (g':=g') (w':=w) ?_ (r1.put hd (r2 _ _ _ pN));rw[gI,e1,hex];simp only[List.length_nil];rw[wL ht hi _ ln cap eP base nZ];rfl
    ·rcases gQ with⟨rfl,_⟩ | ⟨b',off',nZ,l,u9,hcap',uk,hl⟩
     ·exact absurd rfl cF
     ·have hlen:0<ys.length:=List.length_pos_iff.2 cF
      have km:=hl.len;obtain⟨f1,f2⟩:=wX hl;have Cg:∀(j:Nat) (v:Value),l[j]?=some v→w.cell? ((⟨b',off',none⟩:Addr).add j)=some v:=fun j v hj=>by rw[kI,cell?_eq];exact uk j v hj
      by_cases Ae:ln+ys.length≤cap
      ·have h2:(ln+ys.length)*sh.length≤cap*sh.length:=Nat.mul_le_mul_right _ Ae
       rw[Nat.add_mul]at h2;have hr:=run_append_room (P:=P) (ty:=o.type) ht hi (l:=l) (by rw[eH];exact km) Cg Ae (cap:=nZ) hh (off:=0) (by rw[eH];omega) hl.xM
       rw[eH,Nat.zero_add,← dD]at hr;obtain⟨r1,r2⟩:=hR.grown fE hh (by omega) f2 f1 FT
       have u7:({ S with bb:=(id,cs++ys.flatten)::S.bb }:St).eR nw:=by
        refine⟨hn.env,fun k ek hk=>?_,?_,hn.tok⟩
        ·rw[dQ]at hk
         split at hk
         ·cases hk
          intro u hu;rcases List.mem_append.1 hu with h|h
          ·exact hn.bb id cs fE u h
          ·obtain⟨j,sd⟩:=List.mem_iff_getElem?.1 h
           obtain⟨q1,_⟩:=f2 j u sd;exact Jg q1
         ·exact hn.bb k ek hk
        ·rw[dQ,if_neg (fun e=>by subst e;rw[hn.obj]at fE;cases fE)];exact hn.obj
       obtain⟨g',r3,r4,_⟩:=r1.Fv u7 (i:=id) (cs:=cs++ys.flatten) (by rw[dQ,if_pos rfl])
       have r5:R E g' { S with bb:=(nw,cs++ys.flatten)::S.bb.filter fun p => !(p.1==id) } a (w.setRow (g.κ id) (c.toList.take cs.length++l++c.toList.drop (cs.length+l.length)).toArray):=by
        have:(((id,cs++ys.flatten)::S.bb).filter fun p => !(p.1==id))=S.bb.filter fun p => !(p.1==id):=by simp[List.filter]
        rw[←this];exact r3
       refine ct.value (x:=.slice (some ⟨g.κ id,0,none⟩) (ln+ys.length) cap) (g':=g') (w':=w.setRow (g.κ id) (c.toList.take cs.length++l++c.toList.drop (cs.length+l.length)).toArray) ?_ (r5.put hd (r4 _ _ _ ?_))
       ·rw[gI,hex,u9,hr];rfl
       ·exact .cb id _ _ cap Ae Kc
      ·have Ix:(ln+ys.length)*i.bytes≤140737488355328:=Nat.le_trans (Nat.mul_le_mul hle qu) (by decide)
       have qx:(c.toList.take cs.length).length=ln*i.size:=by rw[eH,← dD];simp;omega
       have hr:=run_append_grow (P:=P) w t o.type e i z ht hi hz ⟨g.κ id,0,none⟩ ln cap (c.toList.take cs.length) qx (fun j v hj=>by
         rw[kI,cell?_eq,lg hh,Nat.zero_add];rw[List.getElem?_take]at hj;split at hj
         ·simpa using hj
         ·cases hj)
        ⟨b',off',none⟩ ys.length nZ l (by rw[eH];exact km) Cg (by omega) (by unfold lim at hle;omega) (growslice_fits (by omega) Ix)
       have ahs:(c.toList.take cs.length).length=cs.length:=by simp;omega
       have Ce:cs.length+l.length+(grownCap w (ln+ys.length) cap e-(ln+ys.length))*z.cells.size=grownCap w (ln+ys.length) cap e*sh.length:=by
        rw[dD,km,nh,← Nat.add_mul,← Nat.add_mul];congr 1;have:=@grownCap_le w (ln+ys.length) cap e;omega
       have u7:({ S with bb:=S.bb.filter fun p => !(p.1==id) }:St).eR nw:=by
        refine⟨hn.env,fun k ek hk=>?_,?_,hn.tok⟩
        ·rw[rn]at hk
         split at hk
         ·cases hk
         ·exact hn.bb k ek hk
        ·rw[rn]
         split
         ·rfl
         ·exact hn.obj
       obtain⟨g',r1,r2,r3⟩:=(hR.drop id).newObj (w':=w.drew.alloc (.cells ((c.toList.take cs.length).toArray++l.toArray++Builtin.zeroCells z.cells (grownCap w (ln+ys.length) cap e-(ln+ys.length))) e)) u7 rfl rfl rfl rfl
        (cs:=cs++ys.flatten) (cpn:=grownCap w (ln+ys.length) cap e*sh.length) (hcpn:=by simp only[Array.size_append,Cd,List.size_toArray];omega) (fun j v pQ=>by
         rw[List.getElem?_append]at pQ;split at pQ
         ·rename_i bG
          obtain⟨q1,y,q2,q3⟩:=hj j v pQ;refine⟨q1,rf (hn.bb id cs fE v (List.mem_of_getElem? pQ)),y,?_,q3⟩;rw[Array.getElem?_append_left (by simp;omega),Array.getElem?_append_left (by simp;omega)]
          simp only[List.getElem?_toArray,List.getElem?_take,bG,if_true];simpa using q2
         ·rename_i bG
          obtain⟨q1,y,q2,q3⟩:=f2 _ v pQ;obtain⟨p1,p2,p3⟩:=Kb q1 q3;have:=eZ q2;refine⟨p1,p2 _,y,?_,p3⟩;rw[Array.getElem?_append_left (by simp;omega),Array.getElem?_append_right (by simp;omega)]
          simp only[List.size_toArray,ahs];simpa using q2)
       refine ct.value (x:=.slice (some ⟨w.heap.size,0,none⟩) (ln+ys.length) (grownCap w (ln+ys.length) cap e)) (g':=g')
        (w':=w.drew.alloc (.cells ((c.toList.take cs.length).toArray++l.toArray++Builtin.zeroCells z.cells (grownCap w (ln+ys.length) cap e-(ln+ys.length))) e)) ?_ (r1.put hd ?_)
       ·rw[gI,hex,u9,hr];rfl
       ·rw[←r2];exact .cb nw _ _ _ grownCap_le r3.symm
  ·cases aj
 ·cases aj
end
end Go.Vm
