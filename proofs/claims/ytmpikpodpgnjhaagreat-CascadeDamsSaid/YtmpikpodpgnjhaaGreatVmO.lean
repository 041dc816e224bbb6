/- The value machine, 9b: local objects that grow. -/
import Derived.Test.YtmpikpodpgnjhaaGreatVm9
namespace Go.Vm
set_option linter.all false
section
variable {P:Program} {E:Entry} {g g':Gh} {S S':St} {a:Act} {w w':World}
theorem rn{α:Type}{s d:Nat}:∀{l:List (Nat×α)},look s (l.filter fun p => !(p.1==d))=if s=d then none else look s l
 |[]=>by simp[look]
 |(k,v)::l=>by
  have ih:=rn (s:=s) (d:=d) (l:=l);cases h:k==d with
  |true =>
   have:=eq_of_beq h;subst this;simp only[List.filter,h,Bool.not_true];rw[ih,dP];by_cases hs:s=k
   ·simp[hs]
   ·rw[if_neg hs,if_neg hs,if_neg (fun e=>hs e.symm)]
  |false =>
   simp only[List.filter,h,Bool.not_false];rw[dP,dP,ih];by_cases hk:k=s
   ·subst hk
    have:k≠d:=by simpa using h
    simp[this]
   ·rw[if_neg hk,if_neg hk]
theorem Jd{v:V}{d:Nat}(h:v.plain=true):v.cQ d=false:=by
 cases v<;>simp_all[V.plain,V.cQ];rename_i t _ _;cases t<;>simp_all[V.plain,V.cQ]
theorem R.drop(hR:R E g S a w)(d:Nat):R E g { S with bb:=S.bb.filter fun p => !(p.1==d) } a w :=
 ⟨hR.env,fun id cs ho=>by
  have ho:look id (S.bb.filter fun p => !(p.1==d))=some cs:=ho;rw[rn]at ho;split at ho
  ·cases ho
  ·exact hR.bb id cs ho,hR.bl,hR.az,hR.defers,hR.js,hR.same⟩
theorem R.Jy(hR:R E g S a w){id:Nat}(hn:S.eT id)(k:Nat):∃g',R E g' { S with bb:=(id,[])::S.bb } a w∧g'.κ id=k∧g'.cp id=0∧∀v x,bh (S.cx g w) v x→v.cB id=false→bh (S.cx g' w) v x:=by
 let g':Gh:={ g with κ:=c6 g.κ id k,cp:=c6 g.cp id 0 }
 have t:Touch E g S w g' S.bl S.az.length w w.heap.size (some id) none :=
  {os:=rfl,tape:=rfl,output:=rfl,size:=Nat.le_refl _,heap:=fun _ _ _=>rfl,m:=fun _ _=>rfl,ow:=fun _ _=>rfl,κ:=fun i hi=>gK _ _ (fun e=>hi (by rw[e])),cp:=fun i hi=>gK _ _ (fun e=>hi (by rw[e])),
   τ:=fun _ _=>rfl,T:=fun _ _=>rfl,γ:=fun _ _=>rfl,fa:=Nat.le_refl _,
   γnew:=fun i a b=>absurd a (by omega),fresh:=.inl hR.same.size,ia:=fun _ _ h _=>absurd hR.same.size (Nat.not_le_of_lt h),lv:=fun i h=>hR.z6 h (Nat.le_refl _),jh:=fun _ _ _ hy=>hy,oC:=fun h=>absurd h (Nat.lt_irrefl _) }
 have kC:∀i,iM (S.cx g w) ⟨w.heap,g',S.az.length,S.bl⟩ i∨i=id:=fun i=>by
  by_cases hi:i=id
  ·exact .inr hi
  ·exact .inl (t.keeps hR (fun e=>hi (by cases e;rfl)) (fun e=>by cases e) (fun h=>absurd h (Nat.lt_irrefl _)))
 have r1:R E g' S a w:=R.m9 t hR rfl rfl (fun i=>(kC i).imp (fun z=>z) fun e=>by rw[e];exact hn) (fun s v hs=>.inl hs) (fun i cs ho=>.inl ⟨ho,(fun e=>by cases e;rw[hn.obj]at ho;cases ho),fun h=>absurd h (Nat.lt_irrefl _)⟩)
  (fun i k b hi hb=>.inl ⟨(fun e=>by cases e),fun h=>absurd h (Nat.lt_irrefl _)⟩) (fun i o ho=>.inl ⟨ho,fun h=>absurd h (Nat.lt_irrefl _)⟩)
 refine⟨g',⟨r1.env,fun i cs hi=>?_,r1.bl,r1.az,r1.defers,r1.js,r1.same⟩,dN _ _ _,dN _ _ _,fun v x hx hv=>hx.mono t.le fun i=>(kC i).imp (fun z=>z) fun e=>by rw[e];exact hv⟩
 have hi:look i ((id,[])::S.bb)=some cs:=hi;rw[dP]at hi;by_cases jW:id=i
 ·subst jW
  rw[if_pos rfl]at hi;cases hi;exact .inl ⟨rfl,dN _ _ _⟩
 ·rw[if_neg jW]at hi
  exact r1.bb i cs hi
theorem R.Fq(hR:R E g S a w){i b:Nat}{cs:List V}(hn:S.eT b)(ho:look i S.bb=some cs) :
  ∃g',R E g' { S with bb:=(b,cs)::S.bb.filter fun p => !(p.1==i) } a w∧(∀s n x,bh (S.cx g w) (.b0 i s n) x→bh (S.cx g' w) (.b0 b s n) x) ∧
   ∀v x,bh (S.cx g w) v x→v.cB b=false→bh (S.cx g' w) v x:=by
 have Zu:i≠b:=fun h=>by subst h;rw[hn.obj]at ho;cases ho
 rcases hR.bb i cs ho with⟨h0,uo⟩ | ⟨cH,gA,hm,c,e,hh,fD,hj⟩
 ·subst h0
  obtain⟨g',r1,r2,r3,r4⟩:=(hR.drop i).Jy (id:=b) ⟨hn.env,fun k cs hk=>by
   have hk:look k (S.bb.filter fun p => !(p.1==i))=some cs:=hk;rw[rn]at hk;split at hk
   ·cases hk
   ·exact hn.bb k cs hk,by show look b (S.bb.filter fun p => !(p.1==i))=none;rw[rn,if_neg (fun e=>Zu e.symm)];exact hn.obj,hn.tok⟩ (g.κ i)
  refine⟨g',r1,fun s n x hx=>?_,fun v x hx hv=>r4 v x hx hv⟩;rcases pH hx with⟨cap,h1,h2,rfl⟩ | ⟨rfl,hz,_⟩
  ·have e1:(S.cx g w).g.κ i=(S.cx g' w).g.κ b:=r2.symm
   rw[e1];exact .b0 b s n cap h1 ((h2.trans uo).trans r3.symm)
  ·exact .qn _ _ hz r3
 let g':Gh:={ g with κ:=c6 g.κ b (g.κ i),cp:=c6 g.cp b (g.cp i),ow:=c6 g.ow (g.κ i) (.obj b) }
 have bF:g.κ i<w.heap.size:=by
  rcases Nat.lt_or_ge (g.κ i) w.heap.size with h|h
  ·exact h
  ·simp[Array.getElem?_eq_none h]at hh
 have t:Touch E g S w g' S.bl S.az.length w (g.κ i) (some b) none :=
  {os:=rfl,tape:=rfl,output:=rfl,size:=Nat.le_refl _,heap:=fun _ _ _=>rfl,m:=fun _ _=>rfl,ow:=fun k hk=>gK _ _ hk,κ:=fun k hk=>gK _ _ (fun e=>hk (by rw[e])),
   cp:=fun k hk=>gK _ _ (fun e=>hk (by rw[e])),τ:=fun _ _=>rfl,T:=fun _ _=>rfl,
   γ:=fun _ _=>rfl,fa:=Nat.le_refl _,γnew:=fun k h1 h2=>absurd h1 (by omega),fresh:=.inl gA,ia:=fun p q _ e=>by(have e:c6 g.ow (g.κ i) (.obj b) (g.κ i)=.cell p q:=e);rw[dN]at e;exact nomatch e
   lv:=fun k e=>by(have e:c6 g.ow (g.κ i) (.obj b) (g.κ i)=.az k:=e);rw[dN]at e;exact nomatch e
   jh:=fun _ _ _ h=>h,oC:=fun _=>Nat.le_refl _ }
 have hk:∀k,iM (S.cx g w) ⟨w.heap,g',S.az.length,S.bl⟩ k∨k=b:=fun k=>by
  by_cases h:k=b
  ·exact .inr h
  ·exact .inl (t.keeps hR (fun e=>h (by cases e;rfl)) (fun e=>by cases e) (fun _ e=>by rw[cH]at e;cases e))
 refine⟨g',R.m9 t hR rfl rfl (fun k=>(hk k).imp (fun z=>z) fun e=>by rw[e];exact hn) (fun s v hs=>.inl hs) (fun k eh hi=>?_) (fun f k q hf hq=>.inl ⟨(fun e=>by cases e),fun _ e=>by rw[cH]at e;cases e⟩)
  (fun k o hi=>.inl ⟨hi,fun _=>⟨fun e=>(by rw[cH]at e;cases e),fun _ e=>(by rw[cH]at e;cases e)⟩⟩),fun s n x hx=>?_,fun v x hx hv=>hx.mono t.le fun k=>(hk k).imp (fun z=>z) fun e=>by rw[e];exact hv⟩
 ·have hi:look k ((b,cs)::S.bb.filter fun p => !(p.1==i))=some eh:=hi
  rw[dP]at hi;by_cases J7:b=k
  ·subst J7
   rw[if_pos rfl]at hi;cases hi;refine .inr ⟨?_,?_,?_,c,e,?_,?_,fun j v hv=>?_⟩
   ·show c6 g.ow _ _ (c6 g.κ _ _ _)=_;rw[dN,dN]
   ·show _≤c6 g.κ _ _ _;rw[dN];exact gA
   ·show g.m (c6 g.κ _ _ _)=_;rw[dN];exact hm
   ·show w.heap[c6 g.κ _ _ _]?=_;rw[dN];exact hh
   ·show c6 g.cp _ _ _≤_;rw[dN];exact fD
   ·obtain⟨q1,y,q2,q3⟩:=hj j v hv
    exact⟨q1,y,q2,q3.mono t.le fun k=>(hk k).imp (fun z=>z) fun e=>by rw[e];exact rf (hn.bb i cs ho v (List.mem_of_getElem? hv))⟩
  ·rw[if_neg J7,rn]at hi
   split at hi
   ·cases hi
   ·rename_i Zv
    exact .inl ⟨hi,(fun e=>J7 (by cases e;rfl)),fun _ e=>Zv (by rw[cH]at e;cases e;rfl)⟩
 ·rcases pH hx with⟨cap,h,hc,rfl⟩ | ⟨rfl,hz,h0⟩
  ·have e1:(S.cx g w).g.κ i=(S.cx g' w).g.κ b:=(dN g.κ b (g.κ i)).symm
   rw[e1];exact .b0 b s n cap h (hc.trans (dN g.cp b (g.cp i)).symm)
  ·exact .qn _ _ hz ((dN g.cp b (g.cp i)).trans h0)
theorem wX{h:Array Obj}{m:Nat→Nat}{n:Nat}:∀{ys:List (List V)} {l:List Value},jj h m n ys l→ys.flatten.length=l.length∧∀(j:Nat) (v:V),ys.flatten[j]?=some v→v.plain=true∧∃y,l[j]?=some y∧fk h m v y
 |[],l,hr=>by
  have:=hr.len;simp at this;subst this;simp
 |r::ys,l,hr=>by
  have hl:=hr.len;simp only[List.length_cons,Nat.succ_mul]at hl;have yk:=hr.row 0 r rfl;have ht:jj h m n ys (l.drop n):=⟨by simp[hl],fun i row hi=>hr.row (i+1) row (by simpa using hi),fun i row j v hi hj=>by
   obtain⟨p,y,q,s⟩:=hr.cell (i+1) row j v (by simpa using hi) hj
   refine⟨p,y,?_,s⟩;rw[List.getElem?_drop,← q,Nat.succ_mul];congr 1;omega⟩
  obtain⟨h1,h2⟩:=wX ht;refine⟨by simp only[List.flatten_cons,List.length_append,h1,List.length_drop,yk];omega,fun j v hv=>?_⟩
  rw[List.flatten_cons,List.getElem?_append]at hv;split at hv
  ·obtain⟨p,y,q,s⟩:=hr.cell 0 r j v rfl hv
   exact⟨p,y,by simpa using q,s⟩
  ·rename_i bF
   obtain⟨p,y,q,s⟩:=h2 _ v hv;refine⟨p,y,?_,s⟩;rw[List.getElem?_drop,yk]at q;rw[←q];congr 1;omega
theorem R.grown(hR:R E g S a w){i:Nat}{cs ws:List V}{l:List Value}{c:Array Value}{e:TypeId}(ho:look i S.bb=some cs)(hh:w.heap[g.κ i]?=some (.cells c e (0,0)))(fR:cs.length+l.length≤c.size)
  (hw:∀(j:Nat) (v:V),ws[j]?=some v→v.plain=true∧∃y,l[j]?=some y∧fk w.heap g.m v y) (hlen:ws.length=l.length) (cF:g.cp i≠0) :
  R E g { S with bb:=(i,cs++ws)::S.bb } a (w.setRow (g.κ i) (c.toList.take cs.length++l++c.toList.drop (cs.length+l.length)).toArray) ∧
    ∀v x,bh (S.cx g w) v x→bh (S.cx g (w.setRow (g.κ i) (c.toList.take cs.length++l++c.toList.drop (cs.length+l.length)).toArray)) v x:=by
 obtain⟨cH,gA,hm,c0,e0,wU,fD,hj⟩:=(hR.bb i cs ho).resolve_left (fun h=>cF h.2);rw[hh]at wU;cases wU;have kW:=setRow_heap w _ c (c.toList.take cs.length++l++c.toList.drop (cs.length+l.length)).toArray e _ hh;have tt:=Ce (c':=(c.toList.take cs.length++l++c.toList.drop (cs.length+l.length)).toArray) (S:=S) (w:=w) hm (.inl gA) (fun _ _ e=>by rw[cH]at e;cases e) hR
 have hk:∀k,iM (S.cx g w) ⟨(w.setRow (g.κ i) (c.toList.take cs.length++l++c.toList.drop (cs.length+l.length)).toArray).heap,g,S.az.length,S.bl⟩ k:=fun k=>tt.keeps hR (fun e=>by cases e) (fun e=>by cases e) (fun _ e=>by rw[cH]at e;cases e)
 refine⟨R.m9 tt hR rfl rfl (fun k=>.inl (hk k)) (fun s v hs=>.inl hs) (fun k eh hi=>?_) (fun f k b hf hb=>.inl ⟨(fun e=>by cases e),fun _ e=>by rw[cH]at e;cases e⟩)
  (fun k o hi=>.inl ⟨hi,fun _=>⟨fun e=>(by rw[cH]at e;cases e),fun _ e=>(by rw[cH]at e;cases e)⟩⟩),fun v x hx=>hx.mono tt.le fun k=>.inl (hk k)⟩
 have hi:look k ((i,cs++ws)::S.bb)=some eh:=hi;rw[dP]at hi;by_cases kE:i=k
 ·subst kE
  rw[if_pos rfl]at hi;cases hi;refine .inr ⟨cH,gA,hm,_,e,kW,(by rw[Cd (by omega)];exact fD),fun j u hu=>?_⟩
  rw[Ae (by omega) j]
  rw[List.getElem?_append]at hu;split at hu
  ·rename_i bF
   rw[if_neg (by omega)]
   obtain⟨q1,z,q2,q3⟩:=hj j u hu;exact⟨q1,z,q2,q3.mono tt.le (fun i=>.inl (hk i))⟩
  ·rename_i bF
   have:=eY hu;rw[if_pos (by omega)]
   obtain⟨q1,y,q2,q3⟩:=hw _ u hu;refine⟨?_,y,q2,?_⟩
   ·cases u<;>simp_all[V.plain,V.cU]
   ·have hx:bh (S.cx g w) u y:=.plain q3 (fun f n es he=>by subst he;simp[V.plain]at q1)
    exact hx.mono tt.le (fun i=>.inl (hk i))
 ·rw[if_neg kE]at hi
  exact .inl ⟨hi,(fun e=>by cases e),fun _ e=>kE (by rw[cH]at e;cases e;rfl)⟩
theorem XF{o:Oper}{t e:TypeId}{nw src:Nat}{sh:Sh}{p q:Operand}{x y:bD}{C:bH}(ho:o.op=.call ⟨.builtin .append,#[p,q],#[t,t]⟩)(ht:P.underlying t=some (.slice e))(he:Of P e sh.length)
  (hp:bX p x=true) (hq:bX q y=true) (hn:S.eT nw) (hR:R E g S a w) (hd:∀d,o.dst=some d→d<E.nt)
  (aj:VO.run C o.dst S (.m5 nw src sh x y)=some S'):ct P E o S S' a w:=by
 obtain⟨⟨i,z,hi,hz,eG,na,qt⟩,g6⟩:=he;have gC:∀w,(execOp a.eval o).run P w=((Builtin.append_ #[t,t] o.type #[a.eval p,a.eval q]).run P w).andThen fun v w=>.ok (.value v) w:=fun w=>by
  simp[execOp,ho,resolve,invoke,builtin]
 have J8:∀{v:V} {y:Value},v.plain=true→fk w.heap g.m v y→v.cU=true∧(∀d,v.cB d=false)∧bh (S.cx g w) v y:=fun {v y} h1 h2=>by
  refine⟨?_,fun d=>rf ?_,.plain h2 (fun f n es he=>by subst he;simp[V.plain]at h1)⟩
  ·cases v<;>simp_all[V.plain,V.cU]
  ·cases v<;>simp_all[V.plain,V.cQ]
   rename_i t _ _;cases t<;>simp_all[V.plain,V.cQ]
 have start:∀{b u:V},kz (a.eval p)→bh (S.cx g w) u (a.eval p)→S.ev y=some b→(match S.rows sh b with
   |some ys=>bif ys.isEmpty then some (S.put o.dst u) else
     bif Nat.ble ys.length lim then some ({ S with bb:=(nw,ys.flatten)::S.bb }.put o.dst (.b0 nw sh.length ys.length)) else none
   |none=>none)=some S'→ct P E o S S' a w:=fun {b u} h0 hu hy aj=>by
  split at aj
  ·rename_i ys kD
   have gL:=B5 hR (cX hR hq hy) kD;cases AS:ys.isEmpty with
   |true =>
    simp only[AS,cond_true]at aj;cases aj;have:ys=[]:=List.isEmpty_iff.1 AS;subst this;obtain⟨base,cap,e1,_⟩:=B7 gL;refine ct.value (x:=a.eval p) (w':=w) (g':=g) ?_ (hR.put hd hu);rw[gC,e1];simp only[List.length_nil];rcases h0 with h0 | ⟨a0,h0⟩
    ·rw[h0,wL ht hi none 0 0 (Nat.le_refl _) base cap]
     rfl
    ·rw[h0,wL ht hi (some a0) 0 0 (Nat.le_refl _) base cap]
     rfl
   |false =>
    simp only[AS,cond_false]at aj;have cF:ys≠[]:=fun e=>by simp[e]at AS
    cases hle:Nat.ble ys.length lim with
    |false=>simp[hle]at aj
    |true =>
     simp only[hle,cond_true]at aj;cases aj;have hle:=Nat.le_of_ble_eq_true hle;rcases gL with⟨rfl,_⟩ | ⟨b,off,cap,l,hy,eN,hc,hl⟩
     ·exact absurd rfl cF
     ·have hlen:0<ys.length:=List.length_pos_iff.2 cF
      have ke:=hl.len;have hr:=Ir (P:=P) (ty:=o.type) (w:=w) ht hi hz h0 (b:=⟨b,off,none⟩) (n:=ys.length) (cap:=cap) (l:=l) (by rw[eG];exact ke) (fun j v hj=>by rw[kB,cell?_eq];exact hc j v hj) hlen (by unfold lim at hle;omega) (Nat.le_trans (Nat.mul_le_mul hle qt) (by decide))
      have Ca:l.length+(grownCap w ys.length 0 e-ys.length)*z.cells.size=grownCap w ys.length 0 e*sh.length:=by
       rw[ke,na,← Nat.add_mul];congr 1;have:=@grownCap_le w ys.length 0 e;omega
      obtain⟨f1,f2⟩:=wX hl;obtain⟨g',r1,r2,r3⟩:=hR.newObj (w':=w.drew.alloc (.cells (l.toArray++Builtin.zeroCells z.cells (grownCap w ys.length 0 e-ys.length)) e)) hn rfl rfl rfl rfl (cs:=ys.flatten)
       (cpn:=grownCap w ys.length 0 e*sh.length) (hcpn:=by simp only[Array.size_append,B9,List.size_toArray];omega) (fun j v hj=>by
        obtain⟨q1,y,q2,q3⟩:=f2 j v hj;obtain⟨p1,p2,p3⟩:=J8 q1 q3;exact⟨p1,p2 _,y,by rw[Array.getElem?_append_left (by have:=eY q2;simpa using this)];simpa using q2,p3⟩)
      refine ct.value (x:=.slice (some ⟨w.heap.size,0,none⟩) ys.length (grownCap w ys.length 0 e)) (g':=g') (w':=w.drew.alloc (.cells (l.toArray++Builtin.zeroCells z.cells (grownCap w ys.length 0 e-ys.length)) e)) ?_ (r1.put hd ?_)
      ·rw[gC,hy,hr];rfl
      ·rw[←r2];exact .b0 nw _ _ _ grownCap_le r3.symm
  ·cases aj
 simp only[VO.run]at aj;split at aj
 ·rename_i v hx hy
  exact start (.inl (nT (cX hR hp hx))) (cX hR hp hx) hy aj
 ·rename_i n v hx hy
  exact start (rh (cX hR hp hx)) (cX hR hp hx) hy aj
 ·rename_i id s ln v hx hy
  split at aj
  ·rename_i ys cs kD fA
   cases hc:((id==src)&&(s==sh.length)&&(cs.length==ln*s)&&Nat.ble (ln+ys.length) lim) with
   |false=>simp[hc]at aj
   |true =>
    simp only[hc,cond_true]at aj;cases aj;simp only[Bool.and_eq_true,beq_iff_eq]at hc;obtain⟨⟨⟨rfl,rfl⟩,dC⟩,hle⟩:=hc;have hle:=Nat.le_of_ble_eq_true hle;have gL:=B5 hR (cX hR hq hy) kD;have pL:=cX hR hp hx;by_cases FO:g.cp id=0
    ·have xP:ln=0∧kz (a.eval p):=by
      rcases pH pL with⟨cap,h1,h2,e1⟩ | ⟨h1,h2,_⟩
      ·have h2:cap*sh.length=0:=h2.trans FO
       have B6:cap=0:=by rcases Nat.mul_eq_zero.1 h2 with h|h<;>omega
       subst B6;have qw:ln=0:=by omega
       exact⟨qw,.inr ⟨_,by rw[e1,qw]⟩⟩
      ·exact⟨h1,h2⟩
     obtain⟨rfl,qx⟩:=xP;have Zw:cs=[]:=List.length_eq_zero_iff.1 (by simpa using dC)
     subst Zw;simp only[List.nil_append,Nat.zero_add]at hle ⊢;by_cases cF:ys=[]
     ·subst cF
      obtain⟨base,nX,e1,_⟩:=B7 gL;obtain⟨g',r1,r2,_⟩:=hR.Fq hn fA;simp only[List.flatten_nil,List.length_nil];refine ct.value (x:=a.eval p) (g':=g') (w':=w) ?_ (r1.put hd (r2 _ _ _ pL));rw[gC,e1];rcases qx with e2 | ⟨ad,e2⟩
      ·rw[e2,List.length_nil,wL ht hi none 0 0 (Nat.le_refl _) base nX];rfl
      ·rw[e2,List.length_nil,wL ht hi (some ad) 0 0 (Nat.le_refl _) base nX];rfl
     ·rcases gL with⟨rfl,_⟩ | ⟨b,off,cap,l,hy,eN,hc,hl⟩
      ·exact absurd rfl cF
      ·have hlen:0<ys.length:=List.length_pos_iff.2 cF
       have ke:=hl.len;have hr:=Ir (P:=P) (ty:=o.type) (w:=w) ht hi hz qx (b:=⟨b,off,none⟩) (n:=ys.length) (cap:=cap) (l:=l) (by rw[eG];exact ke) (fun j v hj=>by rw[kB,cell?_eq];exact hc j v hj) hlen (by unfold lim at hle;omega) (Nat.le_trans (Nat.mul_le_mul hle qt) (by decide))
       have Ca:l.length+(grownCap w ys.length 0 e-ys.length)*z.cells.size=grownCap w ys.length 0 e*sh.length:=by
        rw[ke,na,← Nat.add_mul];congr 1;have:=@grownCap_le w ys.length 0 e;omega
       obtain⟨f1,f2⟩:=wX hl;have u9:({ S with bb:=S.bb.filter fun p => !(p.1==id) }:St).eT nw:=by
        refine⟨hn.env,fun k eh hk=>?_,?_,hn.tok⟩
        ·rw[rn]at hk
         split at hk
         ·cases hk
         ·exact hn.bb k eh hk
        ·rw[rn]
         split
         ·rfl
         ·exact hn.obj
       obtain⟨g',r1,r2,r3⟩:=(hR.drop id).newObj (w':=w.drew.alloc (.cells (l.toArray++Builtin.zeroCells z.cells (grownCap w ys.length 0 e-ys.length)) e)) u9 rfl rfl rfl rfl (cs:=ys.flatten)
        (cpn:=grownCap w ys.length 0 e*sh.length) (hcpn:=by simp only[Array.size_append,B9,List.size_toArray];omega) (fun j v hj=>by
         obtain⟨q1,y,q2,q3⟩:=f2 j v hj;obtain⟨p1,p2,p3⟩:=J8 q1 q3;exact⟨p1,p2 _,y,by rw[Array.getElem?_append_left (by have:=eY q2;simpa using this)];simpa using q2,p3⟩)
       refine ct.value (x:=.slice (some ⟨w.heap.size,0,none⟩) ys.length (grownCap w ys.length 0 e)) (g':=g') (w':=w.drew.alloc (.cells (l.toArray++Builtin.zeroCells z.cells (grownCap w ys.length 0 e-ys.length)) e)) ?_ (r1.put hd ?_)
       ·rw[gC,hy,hr];rfl
       ·rw[←r2];exact .b0 nw _ _ _ grownCap_le r3.symm
    obtain⟨cH,gA,hm,c,et,hh,fD,hj⟩:=(hR.bb id cs fA).resolve_left (fun h=>FO h.2);obtain⟨cap,eN,J9,hex⟩:=(pH pL).resolve_right (fun h=>FO h.2.2);have J9:cap*sh.length=g.cp id:=J9;have hex:a.eval p=.slice (some ⟨g.κ id,0,none⟩) ln cap:=hex;have hc:cs.length≤c.size:=by
     rcases Nat.lt_or_ge c.size cs.length with h|h
     ·obtain⟨_,y,hy,_⟩:=hj c.size cs[c.size] (List.getElem?_eq_getElem h)
      simp at hy
     ·exact h
    have fR:cap*sh.length≤c.size:=by omega
    by_cases cF:ys=[]
    ·subst cF
     obtain⟨base,nX,e1,_⟩:=B7 gL;obtain⟨g',r1,r2,_⟩:=hR.Fq hn fA;simp only[List.flatten_nil,List.append_nil,List.length_nil,Nat.add_zero];refine ct.value (x:=a.eval p) (g':=g') (w':=w) ?_ (r1.put hd (r2 _ _ _ pL));rw[gC,e1,hex];simp only[List.length_nil];rw[wL ht hi _ ln cap eN base nX];rfl
    ·rcases gL with⟨rfl,_⟩ | ⟨b',off',nX,l,vb,hcap',um,hl⟩
     ·exact absurd rfl cF
     ·have hlen:0<ys.length:=List.length_pos_iff.2 cF
      have ke:=hl.len;obtain⟨f1,f2⟩:=wX hl;have Cc:∀(j:Nat) (v:Value),l[j]?=some v→w.cell? ((⟨b',off',none⟩:Addr).add j)=some v:=fun j v hj=>by rw[kB,cell?_eq];exact um j v hj
      by_cases Ac:ln+ys.length≤cap
      ·have h2:(ln+ys.length)*sh.length≤cap*sh.length:=Nat.mul_le_mul_right _ Ac
       rw[Nat.add_mul]at h2;have hr:=run_append_room (P:=P) (ty:=o.type) ht hi (l:=l) (by rw[eG];exact ke) Cc Ac (cap:=nX) hh (off:=0) (by rw[eG];omega) hl.xN
       rw[eG,Nat.zero_add,← dC]at hr;obtain⟨r1,r2⟩:=hR.grown fA hh (by omega) f2 f1 FO
       have u9:({ S with bb:=(id,cs++ys.flatten)::S.bb }:St).eT nw:=by
        refine⟨hn.env,fun k eh hk=>?_,?_,hn.tok⟩
        ·rw[dP]at hk
         split at hk
         ·cases hk
          intro u hu;rcases List.mem_append.1 hu with h|h
          ·exact hn.bb id cs fA u h
          ·obtain⟨j,sd⟩:=List.mem_iff_getElem?.1 h
           obtain⟨q1,_⟩:=f2 j u sd;exact Jd q1
         ·exact hn.bb k eh hk
        ·rw[dP,if_neg (fun e=>by subst e;rw[hn.obj]at fA;cases fA)];exact hn.obj
       obtain⟨g',r3,r4,_⟩:=r1.Fq u9 (i:=id) (cs:=cs++ys.flatten) (by rw[dP,if_pos rfl])
       have r5:R E g' { S with bb:=(nw,cs++ys.flatten)::S.bb.filter fun p => !(p.1==id) } a (w.setRow (g.κ id) (c.toList.take cs.length++l++c.toList.drop (cs.length+l.length)).toArray):=by
        have:(((id,cs++ys.flatten)::S.bb).filter fun p => !(p.1==id))=S.bb.filter fun p => !(p.1==id):=by simp[List.filter]
        rw[←this];exact r3
       refine ct.value (x:=.slice (some ⟨g.κ id,0,none⟩) (ln+ys.length) cap) (g':=g') (w':=w.setRow (g.κ id) (c.toList.take cs.length++l++c.toList.drop (cs.length+l.length)).toArray) ?_ (r5.put hd (r4 _ _ _ ?_))
       ·rw[gC,hex,vb,hr];rfl
       ·exact .b0 id _ _ cap Ac J9
      ·have Iu:(ln+ys.length)*i.bytes≤140737488355328:=Nat.le_trans (Nat.mul_le_mul hle qt) (by decide)
       have qw:(c.toList.take cs.length).length=ln*i.size:=by rw[eG,← dC];simp;omega
       have hr:=run_append_grow (P:=P) w t o.type e i z ht hi hz ⟨g.κ id,0,none⟩ ln cap (c.toList.take cs.length) qw (fun j v hj=>by
         rw[kB,cell?_eq,kU hh,Nat.zero_add];rw[List.getElem?_take]at hj;split at hj
         ·simpa using hj
         ·cases hj)
        ⟨b',off',none⟩ ys.length nX l (by rw[eG];exact ke) Cc (by omega) (by unfold lim at hle;omega) (growslice_fits (by omega) Iu)
       have EX:(c.toList.take cs.length).length=cs.length:=by simp;omega
       have Ca:cs.length+l.length+(grownCap w (ln+ys.length) cap e-(ln+ys.length))*z.cells.size=grownCap w (ln+ys.length) cap e*sh.length:=by
        rw[dC,ke,na,← Nat.add_mul,← Nat.add_mul];congr 1;have:=@grownCap_le w (ln+ys.length) cap e;omega
       have u9:({ S with bb:=S.bb.filter fun p => !(p.1==id) }:St).eT nw:=by
        refine⟨hn.env,fun k eh hk=>?_,?_,hn.tok⟩
        ·rw[rn]at hk
         split at hk
         ·cases hk
         ·exact hn.bb k eh hk
        ·rw[rn]
         split
         ·rfl
         ·exact hn.obj
       obtain⟨g',r1,r2,r3⟩:=(hR.drop id).newObj (w':=w.drew.alloc (.cells ((c.toList.take cs.length).toArray++l.toArray++Builtin.zeroCells z.cells (grownCap w (ln+ys.length) cap e-(ln+ys.length))) e)) u9 rfl rfl rfl rfl
        (cs:=cs++ys.flatten) (cpn:=grownCap w (ln+ys.length) cap e*sh.length) (hcpn:=by simp only[Array.size_append,B9,List.size_toArray];omega) (fun j v pO=>by
         rw[List.getElem?_append]at pO;split at pO
         ·rename_i bF
          obtain⟨q1,y,q2,q3⟩:=hj j v pO;refine⟨q1,rf (hn.bb id cs fA v (List.mem_of_getElem? pO)),y,?_,q3⟩;rw[Array.getElem?_append_left (by simp;omega),Array.getElem?_append_left (by simp;omega)]
          simp only[List.getElem?_toArray,List.getElem?_take,bF,if_true];simpa using q2
         ·rename_i bF
          obtain⟨q1,y,q2,q3⟩:=f2 _ v pO;obtain⟨p1,p2,p3⟩:=J8 q1 q3;have:=eY q2;refine⟨p1,p2 _,y,?_,p3⟩;rw[Array.getElem?_append_left (by simp;omega),Array.getElem?_append_right (by simp;omega)]
          simp only[List.size_toArray,EX];simpa using q2)
       refine ct.value (x:=.slice (some ⟨w.heap.size,0,none⟩) (ln+ys.length) (grownCap w (ln+ys.length) cap e)) (g':=g')
        (w':=w.drew.alloc (.cells ((c.toList.take cs.length).toArray++l.toArray++Builtin.zeroCells z.cells (grownCap w (ln+ys.length) cap e-(ln+ys.length))) e)) ?_ (r1.put hd ?_)
       ·rw[gC,hex,vb,hr];rfl
       ·rw[←r2];exact .b0 nw _ _ _ grownCap_le r3.symm
  ·cases aj
 ·cases aj
end
end Go.Vm
