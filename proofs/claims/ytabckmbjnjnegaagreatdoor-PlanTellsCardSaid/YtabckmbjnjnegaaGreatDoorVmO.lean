/- - -/
import Derived.Test.YtabckmbjnjnegaaGreatDoorVm9
namespace Go.Vm
set_option linter.all false
section
variable {P:Program} {E:Entry} {g g':Gh} {S S':St} {a:Act} {w w':World}
def wN{α:Type}{s d:Nat}:∀{l:List (Nat×α)},look s (l.filter λp => !(p.1==d))=if s=d then none else look s l
 |[]=>by simp[look]
 |(k,v)::l=>by
  have ih:=wN (s:=s) (d:=d) (l:=l);cases h:k==d with
  |true =>
   have:=eq_of_beq h;subst this;simp only[List.filter,h,RG];rw[ih,dO];by_cases hs:s=k
   .simp[hs]
   .rw[ax hs,ax hs,ax (λe=>hs e.symm)]
  |false =>
   simp only[List.filter,h,RF];rw[dO,dO,ih];by_cases hk:k=s
   .subst hk
    have:k≠d:=by simpa using h
    simp[this]
   .rw[ax hk,ax hk]
def Tc{v:V}{d:Nat}(h:v.plain=true):v.cQ d=false:=by
 cases v<;>simp_all[V.plain,V.cQ];rename_i t _ _;cases t<;>simp_all[V.plain,V.cQ]
def R.drop(hR:R E g S a w)(d:Nat):R E g { S with aY:=S.aY.filter λp => !(p.1==d) } a w :=
 ⟨hR.env,λid cs ho=>by
  have ho:look id (S.aY.filter λp => !(p.1==d))=some cs:=ho;rw[wN]at ho;split at ho
  .cases ho
  .exact hR.aY id cs ho,hR.bo,hR.aC,hR.defers,hR.kr,hR.same⟩
def R.Oc(hR:R E g S a w){id:Nat}(hn:S.fa id)(k:Nat):∃g',R E g' { S with aY:=(id,[])::S.aY } a w/\g'.κ id=k/\g'.cp id=0/\(∀v x,bh (S.cx g w) v x->v.cI id=false->bh (S.cx g' w) v x)/\∀j,j≠id->g'.κ j=g.κ j/\g'.cp j=g.cp j:=by
 let g':Gh:={ g with κ:=du g.κ id k,cp:=du g.cp id 0 }
 have t:Touch E g S w g' S.bo S.aC.length w w.heap.size (some id) none :=
  {os:=rfl,tape:=rfl,output:=rfl,size:=b8 _,heap:=λ_ _ _=>rfl,m:=λ_ _=>rfl,ow:=λ_ _=>rfl,κ:=λi hi=>g9 _ _ (λe=>hi (by rw[e])),cp:=λi hi=>g9 _ _ (λe=>hi (by rw[e])),
   τ:=λ_ _=>rfl,T:=λ_ _=>rfl,γ:=λ_ _=>rfl,eZ:=b8 _,
   γnew:=λi a b=>absurd a (by omega),fresh:=.inl hR.same.size,jw:=λ_ _ h _=>absurd hR.same.size (Ep h),lv:=λi h=>hR.GK h (b8 _),mM:=λ_ _ _ hy=>hy,sO:=λh=>absurd h (iX _) }
 have nx:∀i,ke (S.cx g w) ⟨w.heap,g',S.aC.length,S.bo⟩ i\/i=id:=λi=>by
  by_cases hi:i=id
  .exact .inr hi
  .exact .inl (t.keeps hR (λe=>hi (by cases e;rfl)) (λe=>by cases e) (λh=>absurd h (iX _)))
 have r1:R E g' S a w:=R.qk t hR rfl rfl (λi=>(nx i).imp (λz=>z) λe=>by rw[e];exact hn) (λs v hs=>.inl hs) (λi cs ho=>.inl ⟨ho,(λe=>by cases e;rw[hn.obj]at ho;cases ho),λh=>absurd h (iX _)⟩)
  (λi k b hi hb=>.inl ⟨(λe=>by cases e),λh=>absurd h (iX _)⟩) (λi o ho=>.inl ⟨ho,λh=>absurd h (iX _)⟩)
 refine⟨g',⟨r1.env,λi cs hi=>?_,r1.bo,r1.aC,r1.defers,r1.kr,r1.same⟩,ea _ _ _,ea _ _ _,λv x hx hv=>hx.mono t.le λi=>(nx i).imp (λz=>z) λe=>by rw[e];exact hv,λ_ h=>⟨g9 _ _ h,g9 _ _ h⟩⟩
 have hi:look i ((id,[])::S.aY)=some cs:=hi;rw[dO]at hi;by_cases kK:id=i
 .subst kK
  rw[aJ rfl]at hi;cases hi;exact .inl ⟨rfl,ea _ _ _⟩
 .rw[ax kK]at hi
  exact r1.aY i cs hi
variable{i:Nat}
def R.Kj(hR:R E g S a w){b:Nat}{cs:List V}(hn:S.fa b)(ho:look i S.aY=some cs) :
  ∃g',R E g' { S with aY:=(b,cs)::S.aY.filter λp => !(p.1==i) } a w/\(∀s n x,bh (S.cx g w) (.bY i s n) x->bh (S.cx g' w) (.bY b s n) x) /\
   (∀v x,bh (S.cx g w) v x->v.cI b=false->bh (S.cx g' w) v x)/\∀s n x,bh (S.cx g' w) (.bY i s n) x->bh (S.cx g' w) (.bY b s n) x:=by
 have lr:∀{g':Gh},g'.κ b=g'.κ i->g'.cp b=g'.cp i->∀s n x,bh (S.cx g' w) (.bY i s n) x->bh (S.cx g' w) (.bY b s n) x:=λ{g'} h1 h2 s n x hx=>by
  rcases tH hx with⟨cap,h3,h4,rfl⟩ | ⟨rfl,hz,h0⟩
  .have e1:(S.cx g' w).g.κ i=(S.cx g' w).g.κ b:=h1.symm
   rw[e1];exact .bY b s n cap h3 (h4.trans h2.symm)
  .exact .tF _ _ hz (h2.trans h0)
 have E2:i≠b:=λh=>by subst h;rw[hn.obj]at ho;cases ho
 rcases hR.aY i cs ho with⟨h0,yS⟩ | ⟨cJ,hH,hm,c,e,hh,gM,hj⟩
 .subst h0
  obtain⟨g',r1,r2,r3,r4,r5⟩:=(hR.drop i).Oc (id:=b) ⟨hn.env,λk cs hk=>by
   have hk:look k (S.aY.filter λp => !(p.1==i))=some cs:=hk;rw[wN]at hk;split at hk
   .cases hk
   .exact hn.aY k cs hk,by show look b (S.aY.filter λp => !(p.1==i))=none;rw[wN,ax (λe=>E2 e.symm)];exact hn.obj,hn.tok⟩ (g.κ i)
  refine⟨g',r1,λs n x hx=>?_,λv x hx hv=>r4 v x hx hv,lr (by rw[r2,(r5 i E2).1]) (by rw[r3,(r5 i E2).2,yS])⟩
  rcases tH hx with⟨cap,h1,h2,rfl⟩ | ⟨rfl,hz,_⟩
  .have e1:(S.cx g w).g.κ i=(S.cx g' w).g.κ b:=r2.symm
   rw[e1];exact .bY b s n cap h1 ((h2.trans yS).trans r3.symm)
  .exact .tF _ _ hz r3
 let g':Gh:={ g with κ:=du g.κ b (g.κ i),cp:=du g.cp b (g.cp i),ow:=du g.ow (g.κ i) (.obj b) }
 have bJ:g.κ i<w.heap.size:=by
  rcases cS (g.κ i) w.heap.size with h|h
  .exact h
  .simp[ou h]at hh
 have t:Touch E g S w g' S.bo S.aC.length w (g.κ i) (some b) none :=
  {os:=rfl,tape:=rfl,output:=rfl,size:=b8 _,heap:=λ_ _ _=>rfl,m:=λ_ _=>rfl,ow:=λk hk=>g9 _ _ hk,κ:=λk hk=>g9 _ _ (λe=>hk (by rw[e])),
   cp:=λk hk=>g9 _ _ (λe=>hk (by rw[e])),τ:=λ_ _=>rfl,T:=λ_ _=>rfl,
   γ:=λ_ _=>rfl,eZ:=b8 _,γnew:=λk h1 h2=>absurd h1 (by omega),fresh:=.inl hH,jw:=λp q _ e=>by(have e:du g.ow (g.κ i) (.obj b) (g.κ i)=.cell p q:=e);rw[ea]at e;exact nomatch e
   lv:=λk e=>by(have e:du g.ow (g.κ i) (.obj b) (g.κ i)=.aC k:=e);rw[ea]at e;exact nomatch e
   mM:=λ_ _ _ h=>h,sO:=λ_=>b8 _ }
 have hk:∀k,ke (S.cx g w) ⟨w.heap,g',S.aC.length,S.bo⟩ k\/k=b:=λk=>by
  by_cases h:k=b
  .exact .inr h
  .exact .inl (t.keeps hR (λe=>h (by cases e;rfl)) (λe=>by cases e) (λ_ e=>by rw[cJ]at e;cases e))
 refine⟨g',R.qk t hR rfl rfl (λk=>(hk k).imp (λz=>z) λe=>by rw[e];exact hn) (λs v hs=>.inl hs) (λk ei hi=>?_) (λf k q hf hq=>.inl ⟨(λe=>by cases e),λ_ e=>by rw[cJ]at e;cases e⟩)
  (λk o hi=>.inl ⟨hi,λ_=>⟨λe=>(by rw[cJ]at e;cases e),λ_ e=>(by rw[cJ]at e;cases e)⟩⟩),λs n x hx=>?_,λv x hx hv=>hx.mono t.le λk=>(hk k).imp (λz=>z) λe=>by rw[e];exact hv,lr (by show du _ _ _ _=du _ _ _ _;rw[ea,g9 _ _ E2]) (by show du _ _ _ _=du _ _ _ _;rw[ea,g9 _ _ E2])⟩
 .have hi:look k ((b,cs)::S.aY.filter λp => !(p.1==i))=some ei:=hi
  rw[dO]at hi;by_cases Uc:b=k
  .subst Uc
   rw[aJ rfl]at hi;cases hi;refine .inr ⟨?_,?_,?_,c,e,?_,?_,λj v hv=>?_⟩
   .show du g.ow _ _ (du g.κ _ _ _)=_;rw[ea,ea]
   .show _<=du g.κ _ _ _;rw[ea];exact hH
   .show g.m (du g.κ _ _ _)=_;rw[ea];exact hm
   .show w.heap[du g.κ _ _ _]?=_;rw[ea];exact hh
   .show du g.cp _ _ _<=_;rw[ea];exact gM
   .obtain⟨q1,y,q2,q3⟩:=hj j v hv
    exact⟨q1,y,q2,q3.mono t.le λk=>(hk k).imp (λz=>z) λe=>by rw[e];exact wE (hn.aY i cs ho v (gw hv))⟩
  .rw[ax Uc,wN]at hi
   split at hi
   .cases hi
   next Dq=>
    exact .inl ⟨hi,(λe=>Uc (by cases e;rfl)),λ_ e=>Dq (by rw[cJ]at e;cases e;rfl)⟩
 .rcases tH hx with⟨cap,h,hc,rfl⟩ | ⟨rfl,hz,h0⟩
  .have e1:(S.cx g w).g.κ i=(S.cx g' w).g.κ b:=(ea g.κ b (g.κ i)).symm
   rw[e1];exact .bY b s n cap h (hc.trans (ea g.cp b (g.cp i)).symm)
  .exact .tF _ _ hz ((ea g.cp b (g.cp i)).trans h0)
def Bu{h:Array Obj}{m:Nat->Nat}{n:Nat}:∀{ys:List (List V)} {l:List Value},kY h m n ys l->ys.flatten.length=l.length/\∀(j:Nat) (v:V),ys.flatten[j]?=some v->v.plain=true/\∃y,l[j]?=some y/\fK h m v y
 |[],l,hr=>by
  have:=hr.len;simp at this;subst this;simp
 |r::ys,l,hr=>by
  have hl:=hr.len;simp only[vp,rY]at hl;have sZ:=hr.row 0 r rfl;have ht:kY h m n ys (l.drop n):=⟨by simp[hl],λi row hi=>hr.row (i+1) row (by simpa using hi),λi row j v hi hj=>by
   obtain⟨p,y,q,s⟩:=hr.cell (i+1) row j v (by simpa using hi) hj
   refine⟨p,y,?_,s⟩;rw[mJ,<- q,rY];congr 1;omega⟩
  obtain⟨h1,h2⟩:=Bu ht;refine⟨by simp only[vn,jQ,h1,RV,sZ];omega,λj v hv=>?_⟩
  rw[vn,rP]at hv;split at hv
  .obtain⟨p,y,q,s⟩:=hr.cell 0 r j v rfl hv
   exact⟨p,y,by simpa using q,s⟩
  next bJ=>
   obtain⟨p,y,q,s⟩:=h2 _ v hv;refine⟨p,y,?_,s⟩;rw[mJ,sZ]at q;rw[<-q];congr 1;omega
variable{e:TypeId}
def R.grown(hR:R E g S a w){cs ws:List V}{l:List Value}{c:Array Value}(ho:look i S.aY=some cs)(hh:w.heap[g.κ i]?=some (.cells c e (0,0)))(gy:cs.length+l.length<=c.size)
  (hw:∀(j:Nat) (v:V),ws[j]?=some v->v.plain=true/\∃y,l[j]?=some y/\fK w.heap g.m v y) (hlen:ws.length=l.length) (cy:g.cp i≠0) :
  R E g { S with aY:=(i,cs++ws)::S.aY } a (w.setRow (g.κ i) (c.toList.take cs.length++l++c.toList.drop (cs.length+l.length)).toArray) /\
    ∀v x,bh (S.cx g w) v x->bh (S.cx g (w.setRow (g.κ i) (c.toList.take cs.length++l++c.toList.drop (cs.length+l.length)).toArray)) v x:=by
 obtain⟨cJ,hH,hm,c0,e0,Ao,gM,hj⟩:=(hR.aY i cs ho).resolve_left (λh=>cy h.2);rw[hh]at Ao;cases Ao;have mq:=setRow_heap w _ c (c.toList.take cs.length++l++c.toList.drop (cs.length+l.length)).toArray e _ hh;have tt:=GU (c':=(c.toList.take cs.length++l++c.toList.drop (cs.length+l.length)).toArray) (S:=S) (w:=w) hm (.inl hH) (λ_ _ e=>by rw[cJ]at e;cases e) hR
 have hk:∀k,ke (S.cx g w) ⟨(w.setRow (g.κ i) (c.toList.take cs.length++l++c.toList.drop (cs.length+l.length)).toArray).heap,g,S.aC.length,S.bo⟩ k:=λk=>tt.keeps hR (λe=>by cases e) (λe=>by cases e) (λ_ e=>by rw[cJ]at e;cases e)
 refine⟨R.qk tt hR rfl rfl (λk=>.inl (hk k)) (λs v hs=>.inl hs) (λk ei hi=>?_) (λf k b hf hb=>.inl ⟨(λe=>by cases e),λ_ e=>by rw[cJ]at e;cases e⟩)
  (λk o hi=>.inl ⟨hi,λ_=>⟨λe=>(by rw[cJ]at e;cases e),λ_ e=>(by rw[cJ]at e;cases e)⟩⟩),λv x hx=>hx.mono tt.le λk=>.inl (hk k)⟩
 have hi:look k ((i,cs++ws)::S.aY)=some ei:=hi;rw[dO]at hi;by_cases lz:i=k
 .subst lz
  rw[aJ rfl]at hi;cases hi;refine .inr ⟨cJ,hH,hm,_,e,mq,(by rw[GS (by omega)];exact gM),λj u hu=>?_⟩
  rw[C5 (by omega) j]
  rw[rP]at hu;split at hu
  next bJ=>
   rw[ax']
   obtain⟨q1,z,q2,q3⟩:=hj j u hu;exact⟨q1,z,q2,q3.mono tt.le (λi=>.inl (hk i))⟩
  next bJ=>
   have:=fg hu;rw[aJ']
   obtain⟨q1,y,q2,q3⟩:=hw _ u hu;refine⟨?_,y,q2,?_⟩
   .cases u<;>simp_all[V.plain,V.c5]
   .have hx:bh (S.cx g w) u y:=.plain q3 (λf n es he=>by subst he;simp[V.plain]at q1)
    exact hx.mono tt.le (λi=>.inl (hk i))
 .rw[ax lz]at hi
  exact .inl ⟨hi,(λe=>by cases e),λ_ e=>lz (by rw[cJ]at e;cases e;rfl)⟩
variable{o:Oper}{t:TypeId}{nw src:Nat}{oy:Option Nat}{sh:Sh}{p q:Operand}
def abX{x y:bG}{C:bI}(ho:o.op=.call ⟨.builtin .append,#[p,q],#[t,t]⟩)(ht:P.underlying t=some (.slice e))(he:Sl P e sh.length)
  (hp:cc p x=true) (hq:cc q y=true) (hn:S.fa nw) (hR:R E g S a w) (hd:∀d,o.dst=some d->d<E.nt)
  (sk:∀id s ln cs,S.ev x=some (.bY id s ln)->look src S.aY=some cs->id=src->cs.length=ln*s)
  (hrun:VO.run C o.dst S (.wB nw src oy sh x y)=some S'):cC P E o S S' a w:=by
 obtain⟨⟨i,z,hi,hz,eF,qO,vC⟩,gR⟩:=he;have fR:∀w,(execOp a.eval o).run P w=((Builtin.append_ #[t,t] o.type #[a.eval p,a.eval q]).run P w).andThen λv w=>.ok (.value v) w:=λw=>by
  simp[execOp,ho,resolve,invoke,builtin]
 have Ud:∀{v:V} {y:Value},v.plain=true->fK w.heap g.m v y->v.c5=true/\(∀d,v.cI d=false)/\bh (S.cx g w) v y:=λ{v y} h1 h2=>by
  refine⟨?_,λd=>wE ?_,.plain h2 (λf n es he=>by subst he;simp[V.plain]at h1)⟩
  .cases v<;>simp_all[V.plain,V.c5]
  .cases v<;>simp_all[V.plain,V.cQ]
   rename_i t _ _;cases t<;>simp_all[V.plain,V.cQ]
 have start:∀{b u:V},nn (a.eval p)->bh (S.cx g w) u (a.eval p)->S.ev y=some b->(match S.jR oy sh b with
   |some ys=>bif ys.isEmpty then some (S.put o.dst u) else
     bif Nat.ble ys.length lim then some ({ S with aY:=(nw,ys.flatten)::S.aY }.put o.dst (.bY nw sh.length ys.length)) else none
   |none=>none)=some S'->cC P E o S S' a w:=λ{b u} h0 hu hy hrun=>by
  split at hrun
  next ys ly=>
   have gT:=JL hR (di hR hq hy) ly;cases HB:ys.isEmpty with
   |true =>
    simp only[HB,bW]at hrun;cases hrun;have:ys=[]:=M7.1 HB;subst this;obtain⟨base,cap,e1,_⟩:=JN gT;refine cC.value (x:=a.eval p) (w':=w) (g':=g) ?_ (hR.put hd hu);rw[fR,e1];simp only[tB];rcases h0 with h0 | ⟨a0,h0⟩
    .rw[h0,C2 ht hi none 0 0 (b8 _) base cap]
     rfl
    .rw[h0,C2 ht hi (some a0) 0 0 (b8 _) base cap]
     rfl
   |false =>
    simp only[HB,gL]at hrun;have cy:ys≠[]:=λe=>by simp[e]at HB
    cases hle:Nat.ble ys.length lim with
    |false=>simp[hle]at hrun
    |true =>
     simp only[hle,bW]at hrun;cases hrun;have hle:=js hle;rcases gT with⟨rfl,_⟩ | ⟨b,off,cap,l,hy,eM,hc,hl⟩
     .exact absurd rfl cy
     .have hlen:0<ys.length:=nS.2 cy
      have la:=hl.len;have hr:=Sq (P:=P) (ty:=o.type) (w:=w) ht hi hz h0 (b:=⟨b,off,none⟩) (n:=ys.length) (cap:=cap) (l:=l) (by rw[eF];exact la) (λj v hj=>by rw[lS,cell?_eq];exact hc j v hj) hlen (by unfold lim at hle;omega) (iO (A5 hle vC) (by decide))
      have JQ:l.length+(grownCap w ys.length 0 e-ys.length)*z.cells.size=grownCap w ys.length 0 e*sh.length:=by
       rw[la,qO,<- Nat.add_mul];congr 1;have:=@grownCap_le w ys.length 0 e;omega
      obtain⟨f1,f2⟩:=Bu hl;obtain⟨g',r1,r2,r3⟩:=hR.newObj (w':=w.drew.alloc (.cells (l.toArray++Builtin.zeroCells z.cells (grownCap w ys.length 0 e-ys.length)) e)) hn rfl rfl rfl rfl (cs:=ys.flatten)
       (cpn:=grownCap w ys.length 0 e*sh.length) (hcpn:=by simp only[I9,JP,Gy];omega) (λj v hj=>by
        obtain⟨q1,y,q2,q3⟩:=f2 j v hj;obtain⟨p1,p2,p3⟩:=Ud q1 q3;exact⟨p1,p2 _,y,by rw[CD (by have:=fg q2;simpa using this)];simpa using q2,p3⟩)
      refine cC.value (x:=.slice (some ⟨w.heap.size,0,none⟩) ys.length (grownCap w ys.length 0 e)) (g':=g') (w':=w.drew.alloc (.cells (l.toArray++Builtin.zeroCells z.cells (grownCap w ys.length 0 e-ys.length)) e)) ?_ (r1.put hd ?_)
      .rw[fR,hy,hr];rfl
      .rw[<-r2];exact .bY nw _ _ _ grownCap_le r3.symm
  .cases hrun
 simp only[VO.run]at hrun;split at hrun
 next v hx hy=>
  exact start (.inl (qK (di hR hp hx))) (di hR hp hx) hy hrun
 next n v hx hy=>
  exact start (wF (di hR hp hx)) (di hR hp hx) hy hrun
 next id s ln v hx hy=>
  split at hrun
  next ys cs ly fb=>
   cases hc:((id==src)&&(s==sh.length)&&(cs.length==ln*s)&&Nat.ble (ln+ys.length) lim) with
   |false =>
    simp only[hc,gL]at hrun;cases kz:(oy.isNone&&(id==src)&&(s==sh.length)&&Nat.ble (ln*s) cs.length&&Nat.ble (ln+ys.length) lim) with
    |false=>simp[kz]at hrun
    |true =>
     simp only[bZ,ec]at kz;obtain⟨⟨⟨⟨_,h2⟩,h3⟩,_⟩,h5⟩:=kz;rw[sk id s ln cs hx fb h2,h2,h3,h5]at hc;simp at hc
   |true =>
    simp only[hc,bW]at hrun;cases hrun;simp only[bZ,ec]at hc;obtain⟨⟨⟨rfl,rfl⟩,dS⟩,hle⟩:=hc;have hle:=js hle;have gT:=JL hR (di hR hq hy) ly;have tM:=di hR hp hx;by_cases OK:g.cp id=0
    .have EC:ln=0/\nn (a.eval p):=by
      rcases tH tM with⟨cap,h1,h2,e1⟩ | ⟨h1,h2,_⟩
      .have h2:cap*sh.length=0:=h2.trans OK
       have Ah:cap=0:=by rcases Nj.1 h2 with h|h<;>omega
       subst Ah;have qQ:ln=0:=by omega
       exact⟨qQ,.inr ⟨_,by rw[e1,qQ]⟩⟩
      .exact⟨h1,h2⟩
     obtain⟨rfl,vI⟩:=EC;have apy:cs=[]:=pz.1 (by simpa using dS)
     subst apy;simp only[vr,kX]at hle ⊢;by_cases cy:ys=[]
     .subst cy
      obtain⟨base,uy,e1,_⟩:=JN gT;obtain⟨g',r1,r2,_⟩:=hR.Kj hn fb;simp only[List.flatten_nil,tB];refine cC.value (x:=a.eval p) (g':=g') (w':=w) ?_ (r1.put hd (r2 _ _ _ tM));rw[fR,e1];rcases vI with e2 | ⟨ad,e2⟩
      .rw[e2,tB,C2 ht hi none 0 0 (b8 _) base uy];rfl
      .rw[e2,tB,C2 ht hi (some ad) 0 0 (b8 _) base uy];rfl
     .rcases gT with⟨rfl,_⟩ | ⟨b,off,cap,l,hy,eM,hc,hl⟩
      .exact absurd rfl cy
      .have hlen:0<ys.length:=nS.2 cy
       have la:=hl.len;have hr:=Sq (P:=P) (ty:=o.type) (w:=w) ht hi hz vI (b:=⟨b,off,none⟩) (n:=ys.length) (cap:=cap) (l:=l) (by rw[eF];exact la) (λj v hj=>by rw[lS,cell?_eq];exact hc j v hj) hlen (by unfold lim at hle;omega) (iO (A5 hle vC) (by decide))
       have JQ:l.length+(grownCap w ys.length 0 e-ys.length)*z.cells.size=grownCap w ys.length 0 e*sh.length:=by
        rw[la,qO,<- Nat.add_mul];congr 1;have:=@grownCap_le w ys.length 0 e;omega
       obtain⟨f1,f2⟩:=Bu hl;have Ai:({ S with aY:=S.aY.filter λp => !(p.1==id) }:St).fa nw:=by
        refine⟨hn.env,λk ei hk=>?_,?_,hn.tok⟩
        .rw[wN]at hk
         split at hk
         .cases hk
         .exact hn.aY k ei hk
        .rw[wN]
         split
         .rfl
         .exact hn.obj
       obtain⟨g',r1,r2,r3⟩:=(hR.drop id).newObj (w':=w.drew.alloc (.cells (l.toArray++Builtin.zeroCells z.cells (grownCap w ys.length 0 e-ys.length)) e)) Ai rfl rfl rfl rfl (cs:=ys.flatten)
        (cpn:=grownCap w ys.length 0 e*sh.length) (hcpn:=by simp only[I9,JP,Gy];omega) (λj v hj=>by
         obtain⟨q1,y,q2,q3⟩:=f2 j v hj;obtain⟨p1,p2,p3⟩:=Ud q1 q3;exact⟨p1,p2 _,y,by rw[CD (by have:=fg q2;simpa using this)];simpa using q2,p3⟩)
       refine cC.value (x:=.slice (some ⟨w.heap.size,0,none⟩) ys.length (grownCap w ys.length 0 e)) (g':=g') (w':=w.drew.alloc (.cells (l.toArray++Builtin.zeroCells z.cells (grownCap w ys.length 0 e-ys.length)) e)) ?_ (r1.put hd ?_)
       .rw[fR,hy,hr];rfl
       .rw[<-r2];exact .bY nw _ _ _ grownCap_le r3.symm
    obtain⟨cJ,hH,hm,c,et,hh,gM,hj⟩:=(hR.aY id cs fb).resolve_left (λh=>OK h.2);obtain⟨cap,eM,Ue,hex⟩:=(tH tM).resolve_right (λh=>OK h.2.2);have Ue:cap*sh.length=g.cp id:=Ue;have hex:a.eval p=.slice (some ⟨g.κ id,0,none⟩) ln cap:=hex;have hc:cs.length<=c.size:=by
     rcases cS c.size cs.length with h|h
     .obtain⟨_,y,hy,_⟩:=hj c.size cs[c.size] (eV h)
      simp at hy
     .exact h
    have gy:cap*sh.length<=c.size:=by omega
    by_cases cy:ys=[]
    .subst cy
     obtain⟨base,uy,e1,_⟩:=JN gT;obtain⟨g',r1,r2,_⟩:=hR.Kj hn fb;simp only[List.flatten_nil,vl,tB,yA];refine cC.value (x:=a.eval p) (g':=g') (w':=w) ?_ (r1.put hd (r2 _ _ _ tM));rw[fR,e1,hex];simp only[tB];rw[C2 ht hi _ ln cap eM base uy];rfl
    .rcases gT with⟨rfl,_⟩ | ⟨b',off',uy,l,Bh,hcap',tK,hl⟩
     .exact absurd rfl cy
     .have hlen:0<ys.length:=nS.2 cy
      have la:=hl.len;obtain⟨f1,f2⟩:=Bu hl;have JS:∀(j:Nat) (v:Value),l[j]?=some v->w.cell? ((⟨b',off',none⟩:Addr).add j)=some v:=λj v hj=>by rw[lS,cell?_eq];exact tK j v hj
      by_cases GQ:ln+ys.length<=cap
      .have h2:(ln+ys.length)*sh.length<=cap*sh.length:=uk _ GQ
       rw[Aa]at h2;have hr:=run_append_room (P:=P) (ty:=o.type) ht hi (l:=l) (by rw[eF];exact la) JS GQ (cap:=uy) hh (off:=0) (by rw[eF];omega) hl.EA
       rw[eF,kX,<- dS]at hr;obtain⟨r1,r2⟩:=hR.grown fb hh (by omega) f2 f1 OK
       have Ai:({ S with aY:=(id,cs++ys.flatten)::S.aY }:St).fa nw:=by
        refine⟨hn.env,λk ei hk=>?_,?_,hn.tok⟩
        .rw[dO]at hk
         split at hk
         .cases hk
          intro u hu;rcases ka.1 hu with h|h
          .exact hn.aY id cs fb u h
          .obtain⟨j,xO⟩:=lN.1 h
           obtain⟨q1,_⟩:=f2 j u xO;exact Tc q1
         .exact hn.aY k ei hk
        .rw[dO,ax (λe=>by subst e;rw[hn.obj]at fb;cases fb)];exact hn.obj
       obtain⟨g',r3,r4,_⟩:=r1.Kj Ai (i:=id) (cs:=cs++ys.flatten) (by rw[dO,aJ rfl])
       have r5:R E g' { S with aY:=(nw,cs++ys.flatten)::S.aY.filter λp => !(p.1==id) } a (w.setRow (g.κ id) (c.toList.take cs.length++l++c.toList.drop (cs.length+l.length)).toArray):=by
        have:(((id,cs++ys.flatten)::S.aY).filter λp => !(p.1==id))=S.aY.filter λp => !(p.1==id):=by simp[List.filter]
        rw[<-this];exact r3
       refine cC.value (x:=.slice (some ⟨g.κ id,0,none⟩) (ln+ys.length) cap) (g':=g') (w':=w.setRow (g.κ id) (c.toList.take cs.length++l++c.toList.drop (cs.length+l.length)).toArray) ?_ (r5.put hd (r4 _ _ _ ?_))
       .rw[fR,hex,Bh,hr];rfl
       .exact .bY id _ _ cap GQ Ue
      .have Ss:(ln+ys.length)*i.bytes<=140737488355328:=iO (A5 hle vC) (by decide)
       have qQ:(c.toList.take cs.length).length=ln*i.size:=by rw[eF,<- dS];simp;omega
       have hr:=run_append_grow (P:=P) w t o.type e i z ht hi hz ⟨g.κ id,0,none⟩ ln cap (c.toList.take cs.length) qQ (λj v hj=>by
         rw[lS,cell?_eq,mn hh,kX];rw[jP]at hj;split at hj
         .simpa using hj
         .cases hj)
        ⟨b',off',none⟩ ys.length uy l (by rw[eF];exact la) JS (by omega) (by unfold lim at hle;omega) (growslice_fits (by omega) Ss)
       have EO:(c.toList.take cs.length).length=cs.length:=by simp;omega
       have JQ:cs.length+l.length+(grownCap w (ln+ys.length) cap e-(ln+ys.length))*z.cells.size=grownCap w (ln+ys.length) cap e*sh.length:=by
        rw[dS,la,qO,<- Nat.add_mul,<- Nat.add_mul];congr 1;have:=@grownCap_le w (ln+ys.length) cap e;omega
       have Ai:({ S with aY:=S.aY.filter λp => !(p.1==id) }:St).fa nw:=by
        refine⟨hn.env,λk ei hk=>?_,?_,hn.tok⟩
        .rw[wN]at hk
         split at hk
         .cases hk
         .exact hn.aY k ei hk
        .rw[wN]
         split
         .rfl
         .exact hn.obj
       obtain⟨g',r1,r2,r3⟩:=(hR.drop id).newObj (w':=w.drew.alloc (.cells ((c.toList.take cs.length).toArray++l.toArray++Builtin.zeroCells z.cells (grownCap w (ln+ys.length) cap e-(ln+ys.length))) e)) Ai rfl rfl rfl rfl
        (cs:=cs++ys.flatten) (cpn:=grownCap w (ln+ys.length) cap e*sh.length) (hcpn:=by simp only[I9,JP,Gy];omega) (λj v uB=>by
         rw[rP]at uB;split at uB
         next bJ=>
          obtain⟨q1,y,q2,q3⟩:=hj j v uB;refine⟨q1,wE (hn.aY id cs fb v (gw uB)),y,?_,q3⟩;rw[CD (by simp;omega),CD (by simp;omega)]
          simp only[Gn,jP,bJ,if_true];simpa using q2
         next bJ=>
          obtain⟨q1,y,q2,q3⟩:=f2 _ v uB;obtain⟨p1,p2,p3⟩:=Ud q1 q3;have:=fg q2;refine⟨p1,p2 _,y,?_,p3⟩;rw[CD (by simp;omega),Array.getElem?_append_right (by simp;omega)]
          simp only[Gy,EO];simpa using q2)
       refine cC.value (x:=.slice (some ⟨w.heap.size,0,none⟩) (ln+ys.length) (grownCap w (ln+ys.length) cap e)) (g':=g')
        (w':=w.drew.alloc (.cells ((c.toList.take cs.length).toArray++l.toArray++Builtin.zeroCells z.cells (grownCap w (ln+ys.length) cap e-(ln+ys.length))) e)) ?_ (r1.put hd ?_)
       .rw[fR,hex,Bh,hr];rfl
       .rw[<-r2];exact .bY nw _ _ _ grownCap_le r3.symm
  .cases hrun
 .cases hrun
def R.apz(hR:R E g S a w){n:Nat}{cs:List V}(ho:look i S.aY=some cs):R E g { S with aY:=(i,cs.take n)::S.aY } a w :=
 ⟨hR.env,λk ds wV=>by
  have hk:look k ((i,cs.take n)::S.aY)=some ds:=wV
  clear wV
  rw[dO]at hk;split at hk
  next e=>
   subst e;cases hk;rcases hR.aY i cs ho with⟨h1,h2⟩ | ⟨h1,h2,h3,c,e,h4,h5,h6⟩
   .exact .inl ⟨by simp[h1],h2⟩
   .refine .inr ⟨h1,h2,h3,c,e,h4,h5,λj v hv=>h6 j v ?_⟩
    rw[jP]at hv;split at hv
    .exact hv
    .cases hv
  .exact hR.aY k ds hk,hR.bo,hR.aC,hR.defers,hR.kr,hR.same⟩
def anw{x y:bG}{C:bI}(ho:o.op=.call ⟨.builtin .append,#[p,q],#[t,t]⟩)(ht:P.underlying t=some (.slice e))(he:Sl P e sh.length)
  (hp:cc p x=true) (hq:cc q y=true) (hn:S.fa nw) (hR:R E g S a w) (hd:∀d,o.dst=some d->d<E.nt)
  (hrun:VO.run C o.dst S (.wB nw src oy sh x y)=some S'):cC P E o S S' a w:=by
 by_cases sk:∀id s ln cs,S.ev x=some (.bY id s ln)->look src S.aY=some cs->id=src->cs.length=ln*s
 .exact abX ho ht he hp hq hn hR hd sk hrun
 .simp only[Classical.not_forall]at sk
  obtain⟨id,s,ln,cs,hx,fb,rfl,cy⟩:=sk;cases hy:S.ev y with
  |none=>simp[VO.run,hx,hy]at hrun
  |some b =>
   simp only[VO.run,hx,hy]at hrun;cases hr:S.jR oy sh b with
   |none=>simp[hr]at hrun
   |some ys =>
    simp only[hr,fb]at hrun;have hc:((id==id)&&(s==sh.length)&&(cs.length==ln*s)&&Nat.ble (ln+ys.length) lim)=false:=by simp[cy]
    simp only[hc,gL]at hrun;cases kz:(oy.isNone&&(id==id)&&(s==sh.length)&&Nat.ble (ln*s) cs.length&&Nat.ble (ln+ys.length) lim) with
    |false=>rw[kz]at hrun;cases hrun
    |true =>
     simp only[kz,bW,Option.some.injEq]at hrun;simp only[bZ,ec,GD]at kz;obtain⟨⟨⟨⟨rfl,-⟩,rfl⟩,hle⟩,hlim⟩:=kz;have hle:=js hle;have hn':({ S with aY:=(id,cs.take (ln*sh.length))::S.aY }:St).fa nw:=by
      refine⟨hn.env,λk ds hk=>?_,?_,hn.tok⟩
      .rw[dO]at hk
       split at hk
       .cases hk
        exact λv hv=>hn.aY id cs fb v (Ek hv)
       .exact hn.aY k ds hk
      .rw[dO,ax (λe=>by subst e;rw[hn.obj]at fb;cases fb)];exact hn.obj
     refine abX (S:={ S with aY:=(id,cs.take (ln*sh.length))::S.aY }) (C:=C) (oy:=none) (src:=id) ho ht he hp hq hn' (hR.apz fb) hd (λnC s' ln' ei h1 h2 h3=>?_) (hrun:=?_)
     .have h1:S.ev x=some (.bY nC s' ln'):=h1
      rw[hx]at h1;cases h1;rw[dO,aJ rfl]at h2;cases h2;rw[CJ];omega
     .have e1:({ S with aY:=(id,cs.take (ln*sh.length))::S.aY }:St).ev x=some (.bY id sh.length ln):=hx
      have e2:({ S with aY:=(id,cs.take (ln*sh.length))::S.aY }:St).ev y=some b:=hy;have e3:({ S with aY:=(id,cs.take (ln*sh.length))::S.aY }:St).jR none sh b=some ys:=hr;have e4:look id ((id,cs.take (ln*sh.length))::S.aY)=some (cs.take (ln*sh.length)):=by rw[dO,aJ rfl]
      have e5:(cs.take (ln*sh.length)).length=ln*sh.length:=by rw[CJ];omega
      have e6:((id,cs.take (ln*sh.length))::S.aY).filter (λp => !(p.1==id))=S.aY.filter λp => !(p.1==id):=by simp[List.filter]
      simp only[VO.run,e1,e2,e3,e4,e5,e6,hlim,beq_self_eq_true,Ee,bW];exact congrArg some hrun
end
