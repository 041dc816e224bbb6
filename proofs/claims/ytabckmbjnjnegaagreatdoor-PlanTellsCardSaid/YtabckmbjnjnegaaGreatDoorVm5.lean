/- - -/
import Derived.Laws.CopyRow
import Derived.Test.YtabckmbjnjnegaaGreatDoorVm4
namespace Go.Vm
set_option linter.all false
section
variable {P:Program} {E:Entry} {g g':Gh} {S S':St} {a:Act} {w w':World} {T':List (Nat×Nat)} {N' B:Nat} {dk dt:Option Nat}
variable{X:Cx}{v:V}
def wG{x:Value}(h:v.plain=true):ZF X v x:=λf n es e=>by subst e;simp[V.plain]at h
variable{off:Nat}
def ZR(hR:R E g S a w){p:V}{x:Value}(hr:bh (S.cx g w) p x){cs:List V}(hc:S.pC p=some (cs,off)) :
  ∃b o,x=.pointer (some ⟨b,o+off,none⟩)/\∀(j:Nat) (v:V),cs[j]?=some v->∃y,cellAt w.heap b (o+j)=some y/\bh (S.cx g w) v y:=by
 unfold St.pC at hc;split at hc
 .split at hc
  next i f q ei ho=>
   cases hc;rcases hR.aY i _ ho with⟨h0,_⟩ | ⟨_,_,_,c,e,hh,_,hj⟩
   .subst h0;exact⟨g.κ i,0,by rw[CY hr,kX];rfl,λj v hv=>by simp at hv⟩
   refine⟨g.κ i,0,by rw[CY hr,kX];rfl,λj v hv=>?_⟩
   obtain⟨_,y,hy,hx⟩:=hj j v hv;exact⟨y,by rw[mn hh,kX];exact hy,hx⟩
  .cases hc
 .split at hc
  next i f q ei ho=>
   cases hc;obtain⟨e,hi⟩:=CZ hr;rcases hR.aC.obj i _ ho with h0 | ⟨_,hm,c,et,hh,hl,hj⟩
   .cases h0;exact⟨g.γ i,0,by rw[e,kX];rfl,λj v hv=>by simp at hv⟩
   refine⟨g.γ i,0,by rw[e,kX];rfl,λj v hv=>?_⟩
   have bJ:j<c.size:=jC (fg hv) hl;obtain⟨_,h2,h3⟩:=hj j v c[j] hv (by simp[bJ])
   refine⟨c[j],by rw[mn hh,kX];simp[bJ],h3.mono ?_ (λi=>.inr (h2 i))⟩
   exact⟨b8 _,λ_ _ _ _ h=>h,λ_ _=>b8 _,b8 _,λ_ _=>rfl⟩
  .cases hc
 .cases hc
  cases hr with
  |plain h _=>cases h
  |ff row _ b o ys hb h1 h2 hp hm=>exact⟨b,o,rfl,λj v hj=>⟨ys j,h1 j v hj,.plain (h2 j v hj) (wG (hp j v hj))⟩⟩
 .cases hc
def mO(P:Program)(t:TypeId):Option Bool :=
 match P.underlying t with
 |some (.struct _)|some (.array _ _)=>some true
 |some _=>some false
 |none=>none
def fD(P:Program)(t:TypeId):Option Nat:=(P.info? t).map (·.size)
def ux(P:Program)(t:TypeId)(sz:Option Nat):Bool :=
 match sz with
 |none=>mO P t==some false&&fD P t==some 1
 |some n=>mO P t==some true&&fD P t==some n
variable{t:TypeId}
def ED{b:Bool}(h:mO P t=some b):(isAgg t).run P w=.ok b w:=by
 unfold mO at h;unfold isAgg;split at h
 next hu=>cases h;simp[kg hu]
 next hu=>cases h;simp[kg hu]
 next d h1 h2 hu=>
  cases h;simp only[Sem.run_bind,kg hu,Result.andThen_ok];cases d<;>first|rfl|exact absurd rfl (h1 _)|exact absurd rfl (h2 _ _)
 .cases h
variable{sz:Option Nat}
def Nw(hs:ux P t sz=true){cs:List V}{b o:Nat}
  (hc:∀(j:Nat) (v:V),cs[j]?=some v->∃y,cellAt w.heap b (o+j)=some y/\bh X v y) (hv:loadAt sz cs off=some v) :
  ∃x,(loadVar t ⟨b,o+off,none⟩).run P w=.ok x w/\bh X v x:=by
 unfold loadAt at hv;unfold ux at hs;cases sz with
 |none =>
  simp only[bZ,ec]at hs;obtain⟨y,hy,hr⟩:=hc off v hv;refine⟨y,?_,hr⟩;simp[loadVar,ED hs.1,cell?_eq,hy]
 |some n =>
  simp only[bZ,ec]at hs;simp only at hv;cases hle:Nat.ble (off+n) cs.length with
  |false=>simp[hle]at hv
  |true =>
   simp only[hle,bW,Option.some.injEq]at hv;have hle:=js hle;subst hv;have hf:∀j,j<n->w.cell? ((⟨b,o+off,none⟩:Addr).add j)=some ((cellAt w.heap b (o+off+j)).getD undef):=λj hj=>by
    obtain⟨y,hy,_⟩:=hc (off+j) cs[off+j] (eV (by omega))
    rw[lS,cell?_eq,show o+off+j=o+(off+j) from by omega,hy]
    rfl
   refine⟨.agg ((List.range n).map λj=>(cellAt w.heap b (o+off+j)).getD undef).toArray,?_,.agg _ _ ?_ λj u y hu hy=>?_⟩
   .simp[loadVar,ED hs.1,qL hs.2,run_loadCells w _ n _ hf]
   .simp;omega
   .simp only[jP,mJ]at hu
    split at hu
    next hj=>
     obtain⟨z,hz,hr⟩:=hc (off+j) u hu;simp[hj]at hy;rw[show o+off+j=o+(off+j) from by omega,hz]at hy
     simp at hy;exact hy ▸ hr
    .cases hu
variable{o:Oper}{p:Operand}{x:bG}{C:bI}
def amy{root:kE}(ho:o.op=.load t p)(hs:ux P t sz=true)(hp:cc p x=true)
  (hR:R E g S a w) (hd:∀d,o.dst=some d->d<E.nt) (hrun:VO.run C o.dst S (.load root sz x)=some S'):cC P E o S S' a w:=by
 simp only[VO.run]at hrun;split at hrun
 next u hu=>
  cases gy:root.fits u with
  |false=>simp[gy]at hrun
  |true =>
   simp only[gy,bW]at hrun;split at hrun
   next cs off hc=>
    split at hrun
    next v hv=>
     cases hrun;obtain⟨b,f,e,eR⟩:=ZR hR (di hR hp hu) hc;obtain⟨z,hz,hr⟩:=Nw (w:=w) hs eR hv;refine cC.put hR hd (x:=z) ?_ (ama hr);simp[execOp,ho,Instr.loadAt,e,Instr.sureAddr,hz]
    .cases hrun
   .cases hrun
 .cases hrun
def ZS(hs:ux P t sz=true){cs:List V}{xs:Array Value}(hl:cs.length=xs.size)
  (hc:∀(j:Nat) (v:V) (y:Value),cs[j]?=some v->xs[j]?=some y->bh X v y) (hv:loadAt sz cs off=some v) :
  ∃x,(part t xs off).run P w=.ok x w/\bh X v x:=by
 unfold loadAt at hv;unfold ux at hs;cases sz with
 |none =>
  simp only[bZ,ec]at hs;have bJ:off<xs.size:=by rw[<-hl];exact fg hv
  refine⟨xs[off],?_,hc off v xs[off] hv (by simp[bJ])⟩
  simp[part,ED hs.1,bJ]
 |some n =>
  simp only[bZ,ec]at hs;simp only at hv;cases hle:Nat.ble (off+n) cs.length with
  |false=>simp[hle]at hv
  |true =>
   simp only[hle,bW,Option.some.injEq]at hv;have hle:=js hle;subst hv;refine⟨.agg (xs.extract off (off+n)),?_,.agg _ _ ?_ λj u y hu hy=>?_⟩
   .simp[part,ED hs.1,qL hs.2]
   .simp;omega
   .simp only[jP,mJ]at hu
    split at hu
    next hj=>
     refine hc (off+j) u y hu ?_;rw[Zb]at hy;split at hy
     .exact hy
     .cases hy
    .cases hu
def amz{fs:Array Field}{f:Field}{fi:Nat}(ho:o.op=.field t p fi)(ht:P.underlying t=some (.struct fs))
  (hf:fs[fi]?=some f) (ku:f.offset=off) (hs:ux P f.type sz=true) (hp:cc p x=true)
  (hR:R E g S a w) (hd:∀d,o.dst=some d->d<E.nt) (hrun:VO.run C o.dst S (.field off sz x)=some S'):cC P E o S S' a w:=by
 simp only[VO.run]at hrun;split at hrun
 next cs hu=>
  split at hrun
  next v hv=>
   cases hrun;obtain⟨xs,e,hl,hx⟩:=tI (di hR hp hu);obtain⟨z,hz,hr⟩:=ZS (w:=w) hs hl hx hv;refine cC.put hR hd (x:=z) ?_ hr;simp[execOp,ho,Instr.field,kg ht,hf,e,asAgg,ku,hz]
  .cases hrun
 .cases hrun
def R.JB(t:Touch E g S w g' T' N' w' B dk dt)(hR:R E g S a w)(hT:S'.bo=T')(hN:S'.aC.length=N')
  (nx:∀i,ke (S.cx g w) ⟨w'.heap,g',N',T'⟩ i\/S.fa i)
  (JC:∀s v,look s S'.env=some v->look s S.env=some v\/∃x,a.tmps[s]?=some x/\bh ⟨w'.heap,g',N',T'⟩ v x)
  (JD:∀id cs,look id S'.aY=some cs->(look id S.aY=some cs/\dk≠some id/\(B<w.heap.size->g.ow B≠.obj id)) \/
   (g'.ow (g'.κ id)=.obj id/\E.w0.heap.size<=g'.κ id/\g'.m (g'.κ id)=0 /\
    ∃c e,w'.heap[g'.κ id]?=some (.cells c e (0,0))/\g'.cp id<=c.size/\∀(j:Nat) (v:V),cs[j]?=some v->v.c5=true/\∃y,c[j]?=some y/\bh ⟨w'.heap,g',N',T'⟩ v y))
  (vB:∀f k b,look f T'=some k->g'.τ f=some b->(dt≠some f/\(B<w.heap.size->g.ow B≠.tok f))\/(g'.ow b=.tok f/\(E.w0.heap.size<=b\/E.own b)/\b<w'.heap.size))
  (C0:∀i o,S'.aC[i]?=some o->o≠.cells []->(S.aC[i]?=some o/\(B<w.heap.size->g.ow B≠.aC i/\∀j,g.ow B≠.cell (g.γ i) j))\/(g'.ow (g'.γ i)=.aC i/\Jz w'.heap g' N' (g'.γ i) o/\Ey w'.heap g' (g'.γ i) o)):R E g' S' a w':=by
 have oB:S'.cx g' w'=⟨w'.heap,g',N',T'⟩:=by simp[St.cx,hT,hN]
 refine⟨λs v hs=>?_,λid cs ho=>?_,λf k b hf hb=>?_,⟨λi o ho=>?_,λi o ho=>?_,λb i ho=>?_⟩,hR.defers,hR.kr,by rw[hN];exact t.same hR⟩
 .rw[oB]
  rcases JC s v hs with h|h
  .exact t.env hR (λi=>(nx i).imp (λz=>z) λh=>h.env) s v h
  .exact h
 .rw[oB]
  rcases JD id cs ho with⟨h1,h2,h3⟩ | h
  .exact t.obj hR h1 h2 h3 (λi=>(nx i).imp (λz=>z) λh v hv=>wE (h.aY id cs h1 v hv))
  .exact .inr h
 .rw[hT]at hf
  rcases vB f k b hf hb with⟨h1,h2⟩ | h
  .exact t.tok hR hf hb h1 h2
  .exact h
 .rw[hN]
  by_cases h0:o=.cells []
  .exact .inl h0
  rcases C0 i o ho h0 with⟨h1,h2⟩ | h
  .exact t.al4 hR h1 λhb=>(h2 hb).1
  .exact .inr ⟨h.1,h.2.1⟩
 .by_cases h0:o=.cells []
  .subst h0;exact λj n es y hj=>by simp at hj
  rcases C0 i o ho h0 with⟨h1,h2⟩ | h
  .exact t.owns hR h1 h2
  .exact h.2.2
 .rw[hN]
  by_cases cy:b=B
  .subst cy;exact⟨(t.lv i ho).1,(t.lv i ho).2.1⟩
  .rw[t.ow b cy]at ho
   obtain⟨h1,h2⟩:=hR.aC.z b i ho;exact⟨(t.m b cy).trans h1,jC h2 t.eZ⟩
def R.qk(t:Touch E g S w g' T' N' w' B dk dt)(hR:R E g S a w)(hT:S'.bo=T')(hN:S'.aC.length=N')
  (nx:∀i,ke (S.cx g w) ⟨w'.heap,g',N',T'⟩ i\/S.fa i)
  (JC:∀s v,look s S'.env=some v->look s S.env=some v\/∃x,a.tmps[s]?=some x/\bh ⟨w'.heap,g',N',T'⟩ v x)
  (JD:∀id cs,look id S'.aY=some cs->(look id S.aY=some cs/\dk≠some id/\(B<w.heap.size->g.ow B≠.obj id)) \/
   (g'.ow (g'.κ id)=.obj id/\E.w0.heap.size<=g'.κ id/\g'.m (g'.κ id)=0 /\
    ∃c e,w'.heap[g'.κ id]?=some (.cells c e (0,0))/\g'.cp id<=c.size/\∀(j:Nat) (v:V),cs[j]?=some v->v.c5=true/\∃y,c[j]?=some y/\bh ⟨w'.heap,g',N',T'⟩ v y))
  (vB:∀f k b,look f T'=some k->g'.τ f=some b->(dt≠some f/\(B<w.heap.size->g.ow B≠.tok f))\/(g'.ow b=.tok f/\(E.w0.heap.size<=b\/E.own b)/\b<w'.heap.size))
  (C0:∀i o,S'.aC[i]?=some o->(S.aC[i]?=some o/\(B<w.heap.size->g.ow B≠.aC i/\∀j,g.ow B≠.cell (g.γ i) j))\/(g'.ow (g'.γ i)=.aC i/\Jz w'.heap g' N' (g'.γ i) o/\Ey w'.heap g' (g'.γ i) o)):R E g' S' a w' :=
 R.JB t hR hT hN nx JC JD vB λi o h _=>C0 i o h
def du{α:Type}(f:Nat->α)(k:Nat)(v:α):Nat->α:=λi=>if i=k then v else f i
variable{α:Type}
def ea(f:Nat->α)(k:Nat)(v:α):du f k v k=v:=by simp[du]
def g9(f:Nat->α){k i:Nat}(v:α)(h:i≠k):du f k v i=f i:=by simp[du,h]
def JE{ob:Obj}(hR:R E g S a w)(hw:w'.heap=w.heap.push ob)(h1:w'.os=w.os)(h2:w'.tape=w.tape)(h3:w'.output=w.output)
  (hm:∀b,b≠w.heap.size->g'.m b=g.m b) (cJ:∀b,b≠w.heap.size->g'.ow b=g.ow b)
  (hκ:∀i,dk≠some i->g'.κ i=g.κ i) (gM:∀i,dk≠some i->g'.cp i=g.cp i) (hτ:∀i,dt≠some i->g'.τ i=g.τ i) (hT:∀i,dt≠some i->look i T'=look i S.bo)
  (hγ:∀i,i<S.aC.length->g'.γ i=g.γ i) (hN:S.aC.length<=N') (hγn:∀i,S.aC.length<=i->i<N'->E.w0.heap.size<=g'.γ i) (wH:∀i,g'.ow w.heap.size=.aC i->g'.m w.heap.size=0/\i<N') :
  Touch E g S w g' T' N' w' w.heap.size dk dt where
 os:=h1
 tape:=h2
 output:=h3
 size:=by rw[hw];simp
 heap:=λb _ hb=>by rw[hw,Zc,ax']
 m:=hm
 ow:=cJ
 κ:=hκ
 cp:=gM
 τ:=hτ
 T:=hT
 γ:=hγ
 eZ:=hN
 γnew:=hγn
 fresh:=.inl hR.same.size
 jw:=λ_ _ h _=>absurd hR.same.size (Ep h)
 lv:=λi h=>⟨(wH i h).1,(wH i h).2,λh=>absurd hR.same.size (Ep h)⟩
 mM:=λo y _ hy=>absurd (CW hy) (iX _)
 sO:=λh=>absurd h (iX _)
variable{c:Array Value}{e:TypeId}
def JG(hw:w'.heap=w.heap.push (.cells c e (0,0))):w'.heap[w.heap.size]?=some (.cells c e (0,0)):=by
 rw[hw];simp
variable{id:Nat}
def R.newObj(hR:R E g S a w)(hn:S.fa id)(hw:w'.heap=w.heap.push (.cells c e (0,0)))(h1:w'.os=w.os)(h2:w'.tape=w.tape)(h3:w'.output=w.output)
  {cs:List V} (eR:∀(j:Nat) (v:V),cs[j]?=some v->v.c5=true/\v.cI id=false/\∃y,c[j]?=some y/\bh (S.cx g w) v y) (cpn:Nat:=0) (hcpn:cpn<=c.size:=by exact A6 _) :
  ∃g',R E g' { S with aY:=(id,cs)::S.aY } a w'/\g'.κ id=w.heap.size/\g'.cp id=cpn:=by
 let g':Gh:={ g with m:=du g.m w.heap.size 0,κ:=du g.κ id w.heap.size,cp:=du g.cp id cpn,ow:=du g.ow w.heap.size (.obj id) }
 have t:Touch E g S w g' S.bo S.aC.length w' w.heap.size (some id) none:=JE hR hw h1 h2 h3 (λb hb=>g9 _ _ hb) (λb hb=>g9 _ _ hb)
  (λi hi=>g9 _ _ (λe=>hi (by rw[e]))) (λi hi=>g9 _ _ (λe=>hi (by rw[e]))) (λi _=>rfl) (λi _=>rfl) (λi _=>rfl) (b8 _) (λi a b=>absurd a (by omega))
  (λi e=>by(have e:du g.ow w.heap.size (.obj id) w.heap.size=.aC i:=e);rw[ea]at e;cases e)
 have nx:∀i,ke (S.cx g w) ⟨w'.heap,g',S.aC.length,S.bo⟩ i\/i=id:=λi=>by
  by_cases hi:i=id
  .exact .inr hi
  .exact .inl (t.keeps hR (λe=>hi (by cases e;rfl)) (λe=>by cases e) (λh=>absurd h (iX _)))
 refine⟨g',R.qk t hR rfl rfl (λi=>(nx i).imp (λz=>z) λe=>by rw[e];exact hn) (λs v hs=>.inl hs) (λi ei ho=>?_) (λf k b hf hb=>.inl ⟨(λe=>by cases e),λh=>absurd h (iX _)⟩)
  (λi o ho=>.inl ⟨ho,λh=>absurd h (iX _)⟩),ea _ _ _,ea _ _ _⟩
 .rw[dO]at ho
  by_cases hi:id=i
  .subst hi
   rw[aJ rfl]at ho;cases ho;refine .inr ⟨?_,?_,?_,c,e,?_,(by show du g.cp _ _ _<=_;rw[ea];exact hcpn),λj v hj=>?_⟩
   .show du g.ow _ _ (du g.κ _ _ _)=_;rw[ea,ea]
   .show _<=du g.κ _ _ _;rw[ea];exact hR.same.size
   .show du g.m _ _ (du g.κ _ _ _)=_;rw[ea,ea]
   .show w'.heap[du g.κ _ _ _]?=_;rw[ea];exact JG hw
   .obtain⟨q1,q2,y,q3,q4⟩:=eR j v hj
    exact⟨q1,y,q3,q4.mono t.le λi=>(nx i).imp (λz=>z) λe=>by rw[e];exact q2⟩
  .rw[ax hi]at ho
   exact .inl ⟨ho,λe=>hi (by cases e;rfl),λh=>absurd h (iX _)⟩
def ZT{d:Nat}(h:v.cI d=false):∀u∈v.cells,u.cI d=false:=λu hu=>by
 cases v with
 |agg cs=>exact ZG h hu
 |_=>simp[V.cells]at hu;subst hu;exact h
def amB{i:TypeInfo}{z:Value}{cells:List V}(ho:o.op=.alloc t)(hi:P.info? t=some i)(hz:i.zero=some z)(hc:xE z.cells.toList cells=true)
  (hn:S.fa id) (hR:R E g S a w) (hd:∀d,o.dst=some d->d<E.nt) (hrun:VO.run C o.dst S (.obj id cells)=some S'):cC P E o S S' a w:=by
 simp only[VO.run]at hrun;cases hrun;obtain⟨hl,hx⟩:=GL (X:=S.cx g w) hc;obtain⟨g',kJ,hκ,_⟩:=hR.newObj (w':=w.alloc (.cells z.cells t)) hn rfl rfl rfl rfl (cs:=cells) (λj v hj=>by
  have bJ:j<z.cells.size:=by have:=fg hj;simp at hl;omega
  obtain⟨q1,q2,q3⟩:=hx j v z.cells[j] hj (by simp[bJ])
  exact⟨q1,q2 _,z.cells[j],by simp[bJ],q3⟩)
 refine cC.value (x:=.pointer (some ⟨w.heap.size,0,none⟩)) (w':=w.alloc (.cells z.cells t)) (g':=g') ?_ (kJ.put hd ?_)
 .simp[execOp,ho,Instr.alloc,zeroValue,typeInfo,hi,hz,newVar,newRow]
 .rw[<-hκ];exact .bn id 0
def amC(ho:o.op=.box t p)(hp:cc p x=true)
  (hn:S.fa id) (GP:∀v,S.ev x=some v->v.cI id=false) (hR:R E g S a w) (hd:∀d,o.dst=some d->d<E.nt) (hrun:VO.run C o.dst S (.box id x)=some S'):cC P E o S S' a w:=by
 simp only[VO.run]at hrun;split at hrun
 next v hv=>
  cases hc:v.cells.all V.c5 with
  |false=>simp[hc]at hrun
  |true =>
   simp only[hc,bW]at hrun;cases hrun;have tK:∀u∈v.cells,u.c5=true:=by simpa [iW] using hc
   obtain⟨hl,hx⟩:=GN (di hR hp hv) tK;obtain⟨g',kJ,hκ,_⟩:=hR.newObj (w':=w.alloc (.cells (a.eval p).cells t)) hn rfl rfl rfl rfl (cs:=v.cells) (λj u hj=>by
    have bJ:j<(a.eval p).cells.size:=by have:=fg hj;simp at hl;omega
    exact⟨tK u (gw hj),ZT (GP v hv) u (gw hj),(a.eval p).cells[j],by simp[bJ],hx j u _ hj (by simp[bJ])⟩)
   refine cC.value (x:=.pointer (some ⟨w.heap.size,0,none⟩)) (w':=w.alloc (.cells (a.eval p).cells t)) (g':=g') ?_ (kJ.put hd ?_)
   .simp[execOp,ho,Instr.box,newVar,newRow]
   .rw[<-hκ];exact .bn id 0
 .cases hrun
end
