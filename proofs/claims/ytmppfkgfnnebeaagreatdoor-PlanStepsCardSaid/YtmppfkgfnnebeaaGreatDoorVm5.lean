/- The value machine, 5: the operations that read, write and make memory. -/
import Derived.Laws.CopyRow
import Derived.Test.YtmppfkgfnnebeaaGreatDoorVm4
namespace Go.Vm
set_option linter.all false
section
variable {P:Program} {E:Entry} {g g':Gh} {S S':St} {a:Act} {w w':World} {T':List (Nat×Nat)} {N' B:Nat} {dk dt:Option Nat}
theorem um{X:Cx}{v:V}{x:Value}(h:v.plain=true):V8 X v x:=fun f n es e=>by subst e;simp[V.plain]at h
theorem Wk(hR:R E g S a w){p:V}{x:Value}(hr:bb (S.cx g w) p x){cs:List V}{off:Nat}(hc:S.nJ p=some (cs,off)) :
  ∃b o,x=.pointer (some ⟨b,o+off,none⟩)∧∀(j:Nat) (v:V),cs[j]?=some v→∃y,cellAt w.heap b (o+j)=some y∧bb (S.cx g w) v y:=by
 unfold St.nJ at hc;split at hc
 ·split at hc
  ·rename_i i f q dS ho
   cases hc;rcases hR.aW i _ ho with⟨h0,_⟩ | ⟨_,_,_,c,e,hh,_,hj⟩
   ·subst h0;exact⟨g.κ i,0,by rw[Ba hr,jV];rfl,fun j v hv=>by simp at hv⟩
   refine⟨g.κ i,0,by rw[Ba hr,jV];rfl,fun j v hv=>?_⟩
   obtain⟨_,y,hy,hx⟩:=hj j v hv;exact⟨y,by rw[kR hh,jV];exact hy,hx⟩
  ·cases hc
 ·split at hc
  ·rename_i i f q dS ho
   cases hc;obtain⟨e,hi⟩:=Bb hr;rcases hR.aA.obj i _ ho with h0 | ⟨_,hm,c,et,hh,hl,hj⟩
   ·cases h0;exact⟨g.γ i,0,by rw[e,jV];rfl,fun j v hv=>by simp at hv⟩
   refine⟨g.γ i,0,by rw[e,jV];rfl,fun j v hv=>?_⟩
   have bE:j<c.size:=iC (eQ hv) hl;obtain⟨_,h2,h3⟩:=hj j v c[j] hv (by simp[bE])
   refine⟨c[j],by rw[kR hh,jV];simp[bE],h3.mono ?_ (fun i=>.inr (h2 i))⟩
   exact⟨bV _,fun _ _ _ _ h=>h,fun _ _=>bV _,bV _,fun _ _=>rfl⟩
  ·cases hc
 ·cases hc
  cases hr with
  |plain h _=>cases h
  |eP row _ b o ys hb h1 h2 hp hm=>exact⟨b,o,rfl,fun j v hj=>⟨ys j,h1 j v hj,.plain (h2 j v hj) (um (hp j v hj))⟩⟩
 ·cases hc
def lp(P:Program)(t:TypeId):Option Bool :=
 match P.underlying t with
 |some (.struct _)|some (.array _ _)=>some true
 |some _=>some false
 |none=>none
def e9(P:Program)(t:TypeId):Option Nat:=(P.info? t).map (·.size)
def sx(P:Program)(t:TypeId)(sz:Option Nat):Bool :=
 match sz with
 |none=>lp P t==some false&&e9 P t==some 1
 |some n=>lp P t==some true&&e9 P t==some n
theorem CI{t:TypeId}{b:Bool}(h:lp P t=some b):(isAgg t).run P w=.ok b w:=by
 unfold lp at h;unfold isAgg;split at h
 ·rename_i hu;cases h;simp[ji hu]
 ·rename_i hu;cases h;simp[ji hu]
 ·rename_i d h1 h2 hu
  cases h;simp only[Sem.run_bind,ji hu,Result.andThen_ok];cases d<;>first|rfl|exact absurd rfl (h1 _)|exact absurd rfl (h2 _ _)
 ·cases h
theorem KL{t:TypeId}{sz:Option Nat}(hs:sx P t sz=true){cs:List V}{off b o:Nat}{v:V}{X:Cx}
  (hc:∀(j:Nat) (v:V),cs[j]?=some v→∃y,cellAt w.heap b (o+j)=some y∧bb X v y) (hv:loadAt sz cs off=some v) :
  ∃x,(loadVar t ⟨b,o+off,none⟩).run P w=.ok x w∧bb X v x:=by
 unfold loadAt at hv;unfold sx at hs;cases sz with
 |none =>
  simp only[bS,dO]at hs;obtain⟨y,hy,hr⟩:=hc off v hv;refine⟨y,?_,hr⟩;simp[loadVar,CI hs.1,cell?_eq,hy]
 |some n =>
  simp only[bS,dO]at hs;simp only at hv;cases hle:Nat.ble (off+n) cs.length with
  |false=>simp[hle]at hv
  |true =>
   simp only[hle,bG,Option.some.injEq]at hv;have hle:=il hle;subst hv;have hf:∀j,j<n→w.cell? ((⟨b,o+off,none⟩:Addr).add j)=some ((cellAt w.heap b (o+off+j)).getD undef):=fun j hj=>by
    obtain⟨y,hy,_⟩:=hc (off+j) cs[off+j] (fN (by omega))
    rw[kB,cell?_eq,show o+off+j=o+(off+j) from by omega,hy]
    rfl
   refine⟨.agg ((List.range n).map fun j=>(cellAt w.heap b (o+off+j)).getD undef).toArray,?_,.agg _ _ ?_ fun j u y hu hy=>?_⟩
   ·simp[loadVar,CI hs.1,oW hs.2,run_loadCells w _ n _ hf]
   ·simp;omega
   ·simp only[iP,mn]at hu
    split at hu
    ·rename_i hj
     obtain⟨z,hz,hr⟩:=hc (off+j) u hu;simp[hj]at hy;rw[show o+off+j=o+(off+j) from by omega,hz]at hy
     simp at hy;exact hy ▸ hr
    ·cases hu
theorem ah4{o:Oper}{t:TypeId}{root:jC}{sz:Option Nat}{p:Operand}{x:bw}{C:bD}(ho:o.op=.load t p)(hs:sx P t sz=true)(hp:bU p x=true)
  (hR:R E g S a w) (hd:∀d,o.dst=some d→d<E.nt) (hrun:VO.run C o.dst S (.load root sz x)=some S'):ch P E o S S' a w:=by
 simp only[VO.run]at hrun;split at hrun
 ·rename_i u hu
  cases fC:root.fits u with
  |false=>simp[fC]at hrun
  |true =>
   simp only[fC,bG]at hrun;split at hrun
   ·rename_i cs off hc
    split at hrun
    ·rename_i v hv
     cases hrun;obtain⟨b,f,e,ew⟩:=Wk hR (cY hR hp hu) hc;obtain⟨z,hz,hr⟩:=KL (w:=w) hs ew hv;refine ch.put hR hd (x:=z) ?_ (ahG hr);simp[execOp,ho,Instr.loadAt,e,Instr.sureAddr,hz]
    ·cases hrun
   ·cases hrun
 ·cases hrun
theorem Wl{t:TypeId}{sz:Option Nat}(hs:sx P t sz=true){cs:List V}{xs:Array Value}{off:Nat}{v:V}{X:Cx}(hl:cs.length=xs.size)
  (hc:∀(j:Nat) (v:V) (y:Value),cs[j]?=some v→xs[j]?=some y→bb X v y) (hv:loadAt sz cs off=some v) :
  ∃x,(part t xs off).run P w=.ok x w∧bb X v x:=by
 unfold loadAt at hv;unfold sx at hs;cases sz with
 |none =>
  simp only[bS,dO]at hs;have bE:off<xs.size:=by rw[←hl];exact eQ hv
  refine⟨xs[off],?_,hc off v xs[off] hv (by simp[bE])⟩
  simp[part,CI hs.1,bE]
 |some n =>
  simp only[bS,dO]at hs;simp only at hv;cases hle:Nat.ble (off+n) cs.length with
  |false=>simp[hle]at hv
  |true =>
   simp only[hle,bG,Option.some.injEq]at hv;have hle:=il hle;subst hv;refine⟨.agg (xs.extract off (off+n)),?_,.agg _ _ ?_ fun j u y hu hy=>?_⟩
   ·simp[part,CI hs.1,oW hs.2]
   ·simp;omega
   ·simp only[iP,mn]at hu
    split at hu
    ·rename_i hj
     refine hc (off+j) u y hu ?_;rw[VD]at hy;split at hy
     ·exact hy
     ·cases hy
    ·cases hu
theorem ah5{o:Oper}{t:TypeId}{fs:Array Field}{f:Field}{fi off:Nat}{sz:Option Nat}{p:Operand}{x:bw}{C:bD}(ho:o.op=.field t p fi)(ht:P.underlying t=some (.struct fs))
  (hf:fs[fi]?=some f) (jt:f.offset=off) (hs:sx P f.type sz=true) (hp:bU p x=true)
  (hR:R E g S a w) (hd:∀d,o.dst=some d→d<E.nt) (hrun:VO.run C o.dst S (.field off sz x)=some S'):ch P E o S S' a w:=by
 simp only[VO.run]at hrun;split at hrun
 ·rename_i cs hu
  split at hrun
  ·rename_i v hv
   cases hrun;obtain⟨xs,e,hl,hx⟩:=qS (cY hR hp hu);obtain⟨z,hz,hr⟩:=Wl (w:=w) hs hl hx hv;refine ch.put hR hd (x:=z) ?_ hr;simp[execOp,ho,Instr.field,ji ht,hf,e,asAgg,jt,hz]
  ·cases hrun
 ·cases hrun
theorem ah6{o:Oper}{t el:TypeId}{len n:Nat}{ag:Bool}{p q:Operand}{x i:bw}{C:bD}(ho:o.op=.index t p q)(ht:P.underlying t=some (.array len el))
  (hs:sx P el (bif ag then some n else none)=true) (hn:e9 P el=some n) (hp:bU p x=true) (hq:bU q i=true)
  (hR:R E g S a w) (hd:∀d,o.dst=some d→d<E.nt) (hrun:VO.run C o.dst S (.idx len n ag x i)=some S'):ch P E o S S' a w:=by
 simp only[VO.run]at hrun;split at hrun
 ·rename_i cs k m hu hm
  have e2:=mI (cY hR hq hm);cases hc:(decide (0≤m)&&decide (m<(len:Int))) with
  |false=>simp[hc]at hrun
  |true =>
   simp only[hc,bG]at hrun;simp only[bS,iD]at hc;split at hrun
   ·rename_i v hv
    cases hrun;obtain⟨xs,e,hl,hx⟩:=qS (cY hR hp hu);obtain⟨z,hz,hr⟩:=Wl (w:=w) hs hl hx hv;refine ch.put hR hd (x:=z) ?_ hr;simp[execOp,ho,Instr.index,asIntOf,e2,ji ht,e,oW hn,hc,hz]
   ·cases hrun
 ·cases hrun
theorem R.Hf(t:Touch E g S w g' T' N' w' B dk dt)(hR:R E g S a w)(hT:S'.bj=T')(hN:S'.aA.length=N')
  (lP:∀i,jg (S.cx g w) ⟨w'.heap,g',N',T'⟩ i∨S.eN i)
  (Hg:∀s v,look s S'.env=some v→look s S.env=some v∨∃x,a.tmps[s]?=some x∧bb ⟨w'.heap,g',N',T'⟩ v x)
  (Hh:∀id cs,look id S'.aW=some cs→(look id S.aW=some cs∧dk≠some id∧(B<w.heap.size→g.ow B≠.obj id)) ∨
   (g'.ow (g'.κ id)=.obj id∧E.w0.heap.size≤g'.κ id∧g'.m (g'.κ id)=0 ∧
    ∃c e,w'.heap[g'.κ id]?=some (.cells c e (0,0))∧g'.cp id≤c.size∧∀(j:Nat) (v:V),cs[j]?=some v→v.cL=true∧∃y,c[j]?=some y∧bb ⟨w'.heap,g',N',T'⟩ v y))
  (tr:∀f k b,look f T'=some k→g'.τ f=some b→(dt≠some f∧(B<w.heap.size→g.ow B≠.tok f))∨(g'.ow b=.tok f∧(E.w0.heap.size≤b∨E.own b)∧b<w'.heap.size))
  (Bc:∀i o,S'.aA[i]?=some o→o≠.cells []→(S.aA[i]?=some o∧(B<w.heap.size→g.ow B≠.aA i∧∀j,g.ow B≠.cell (g.γ i) j))∨(g'.ow (g'.γ i)=.aA i∧Hd w'.heap g' N' (g'.γ i) o∧CD w'.heap g' (g'.γ i) o)):R E g' S' a w':=by
 have mJ:S'.cx g' w'=⟨w'.heap,g',N',T'⟩:=by simp[St.cx,hT,hN]
 refine⟨fun s v hs=>?_,fun id cs ho=>?_,fun f k b hf hb=>?_,⟨fun i o ho=>?_,fun i o ho=>?_,fun b i ho=>?_⟩,hR.defers,hR.js,by rw[hN];exact t.same hR⟩
 ·rw[mJ]
  rcases Hg s v hs with h|h
  ·exact t.env hR (fun i=>(lP i).imp (fun z=>z) fun h=>h.env) s v h
  ·exact h
 ·rw[mJ]
  rcases Hh id cs ho with⟨h1,h2,h3⟩ | h
  ·exact t.obj hR h1 h2 h3 (fun i=>(lP i).imp (fun z=>z) fun h v hv=>uj (h.aW id cs h1 v hv))
  ·exact .inr h
 ·rw[hT]at hf
  rcases tr f k b hf hb with⟨h1,h2⟩ | h
  ·exact t.tok hR hf hb h1 h2
  ·exact h
 ·rw[hN]
  by_cases h0:o=.cells []
  ·exact .inl h0
  rcases Bc i o ho h0 with⟨h1,h2⟩ | h
  ·exact t.ahA hR h1 fun hb=>(h2 hb).1
  ·exact .inr ⟨h.1,h.2.1⟩
 ·by_cases h0:o=.cells []
  ·subst h0;exact fun j n es y hj=>by simp at hj
  rcases Bc i o ho h0 with⟨h1,h2⟩ | h
  ·exact t.owns hR h1 h2
  ·exact h.2.2
 ·rw[hN]
  by_cases cf:b=B
  ·subst cf;exact⟨(t.lv i ho).1,(t.lv i ho).2.1⟩
  ·rw[t.ow b cf]at ho
   obtain⟨h1,h2⟩:=hR.aA.z b i ho;exact⟨(t.m b cf).trans h1,iC h2 t.eK⟩
theorem R.oA(t:Touch E g S w g' T' N' w' B dk dt)(hR:R E g S a w)(hT:S'.bj=T')(hN:S'.aA.length=N')
  (lP:∀i,jg (S.cx g w) ⟨w'.heap,g',N',T'⟩ i∨S.eN i)
  (Hg:∀s v,look s S'.env=some v→look s S.env=some v∨∃x,a.tmps[s]?=some x∧bb ⟨w'.heap,g',N',T'⟩ v x)
  (Hh:∀id cs,look id S'.aW=some cs→(look id S.aW=some cs∧dk≠some id∧(B<w.heap.size→g.ow B≠.obj id)) ∨
   (g'.ow (g'.κ id)=.obj id∧E.w0.heap.size≤g'.κ id∧g'.m (g'.κ id)=0 ∧
    ∃c e,w'.heap[g'.κ id]?=some (.cells c e (0,0))∧g'.cp id≤c.size∧∀(j:Nat) (v:V),cs[j]?=some v→v.cL=true∧∃y,c[j]?=some y∧bb ⟨w'.heap,g',N',T'⟩ v y))
  (tr:∀f k b,look f T'=some k→g'.τ f=some b→(dt≠some f∧(B<w.heap.size→g.ow B≠.tok f))∨(g'.ow b=.tok f∧(E.w0.heap.size≤b∨E.own b)∧b<w'.heap.size))
  (Bc:∀i o,S'.aA[i]?=some o→(S.aA[i]?=some o∧(B<w.heap.size→g.ow B≠.aA i∧∀j,g.ow B≠.cell (g.γ i) j))∨(g'.ow (g'.γ i)=.aA i∧Hd w'.heap g' N' (g'.γ i) o∧CD w'.heap g' (g'.γ i) o)):R E g' S' a w' :=
 R.Hf t hR hT hN lP Hg Hh tr fun i o h _=>Bc i o h
def c6{α:Type}(f:Nat→α)(k:Nat)(v:α):Nat→α:=fun i=>if i=k then v else f i
theorem dL{α:Type}(f:Nat→α)(k:Nat)(v:α):c6 f k v k=v:=by simp[c6]
theorem fY{α:Type}(f:Nat→α){k i:Nat}(v:α)(h:i≠k):c6 f k v i=f i:=by simp[c6,h]
theorem Hj{ob:Obj}(hR:R E g S a w)(hw:w'.heap=w.heap.push ob)(h1:w'.os=w.os)(h2:w'.tape=w.tape)(h3:w'.output=w.output)
  (hm:∀b,b≠w.heap.size→g'.m b=g.m b) (cr:∀b,b≠w.heap.size→g'.ow b=g.ow b)
  (hκ:∀i,dk≠some i→g'.κ i=g.κ i) (fU:∀i,dk≠some i→g'.cp i=g.cp i) (hτ:∀i,dt≠some i→g'.τ i=g.τ i) (hT:∀i,dt≠some i→look i T'=look i S.bj)
  (hγ:∀i,i<S.aA.length→g'.γ i=g.γ i) (hN:S.aA.length≤N') (hγn:∀i,S.aA.length≤i→i<N'→E.w0.heap.size≤g'.γ i) (yn:∀i,g'.ow w.heap.size=.aA i→g'.m w.heap.size=0∧i<N') :
  Touch E g S w g' T' N' w' w.heap.size dk dt where
 os:=h1
 tape:=h2
 output:=h3
 size:=by rw[hw];simp
 heap:=fun b _ hb=>by rw[hw,VE,ay (by omega)]
 m:=hm
 ow:=cr
 κ:=hκ
 cp:=fU
 τ:=hτ
 T:=hT
 γ:=hγ
 eK:=hN
 γnew:=hγn
 fresh:=.inl hR.same.size
 iq:=fun _ _ h _=>absurd hR.same.size (Ct h)
 lv:=fun i h=>⟨(yn i h).1,(yn i h).2,fun h=>absurd hR.same.size (Ct h)⟩
 kb:=fun o y _ hy=>absurd (A8 hy) (gU _)
 qn:=fun h=>absurd h (gU _)
theorem Hl{c:Array Value}{e:TypeId}(hw:w'.heap=w.heap.push (.cells c e (0,0))):w'.heap[w.heap.size]?=some (.cells c e (0,0)):=by
 rw[hw];simp
theorem R.newObj(hR:R E g S a w){id:Nat}(hn:S.eN id){c:Array Value}{e:TypeId}(hw:w'.heap=w.heap.push (.cells c e (0,0)))(h1:w'.os=w.os)(h2:w'.tape=w.tape)(h3:w'.output=w.output)
  {cs:List V} (ew:∀(j:Nat) (v:V),cs[j]?=some v→v.cL=true∧v.cq id=false∧∃y,c[j]?=some y∧bb (S.cx g w) v y) (cpn:Nat:=0) (hcpn:cpn≤c.size:=by exact y7 _) :
  ∃g',R E g' { S with aW:=(id,cs)::S.aW } a w'∧g'.κ id=w.heap.size∧g'.cp id=cpn:=by
 let g':Gh:={ g with m:=c6 g.m w.heap.size 0,κ:=c6 g.κ id w.heap.size,cp:=c6 g.cp id cpn,ow:=c6 g.ow w.heap.size (.obj id) }
 have t:Touch E g S w g' S.bj S.aA.length w' w.heap.size (some id) none:=Hj hR hw h1 h2 h3 (fun b hb=>fY _ _ hb) (fun b hb=>fY _ _ hb)
  (fun i hi=>fY _ _ (fun e=>hi (by rw[e]))) (fun i hi=>fY _ _ (fun e=>hi (by rw[e]))) (fun i _=>rfl) (fun i _=>rfl) (fun i _=>rfl) (bV _) (fun i a b=>absurd a (by omega))
  (fun i e=>by(have e:c6 g.ow w.heap.size (.obj id) w.heap.size=.aA i:=e);rw[dL]at e;cases e)
 have lP:∀i,jg (S.cx g w) ⟨w'.heap,g',S.aA.length,S.bj⟩ i∨i=id:=fun i=>by
  by_cases hi:i=id
  ·exact .inr hi
  ·exact .inl (t.keeps hR (fun e=>hi (by cases e;rfl)) (fun e=>by cases e) (fun h=>absurd h (gU _)))
 refine⟨g',R.oA t hR rfl rfl (fun i=>(lP i).imp (fun z=>z) fun e=>by rw[e];exact hn) (fun s v hs=>.inl hs) (fun i dS ho=>?_) (fun f k b hf hb=>.inl ⟨(fun e=>by cases e),fun h=>absurd h (gU _)⟩)
  (fun i o ho=>.inl ⟨ho,fun h=>absurd h (gU _)⟩),dL _ _ _,dL _ _ _⟩
 ·rw[dz]at ho
  by_cases hi:id=i
  ·subst hi
   rw[aM rfl]at ho;cases ho;refine .inr ⟨?_,?_,?_,c,e,?_,(by show c6 g.cp _ _ _≤_;rw[dL];exact hcpn),fun j v hj=>?_⟩
   ·show c6 g.ow _ _ (c6 g.κ _ _ _)=_;rw[dL,dL]
   ·show _≤c6 g.κ _ _ _;rw[dL];exact hR.same.size
   ·show c6 g.m _ _ (c6 g.κ _ _ _)=_;rw[dL,dL]
   ·show w'.heap[c6 g.κ _ _ _]?=_;rw[dL];exact Hl hw
   ·obtain⟨q1,q2,y,q3,q4⟩:=ew j v hj
    exact⟨q1,y,q3,q4.mono t.le fun i=>(lP i).imp (fun z=>z) fun e=>by rw[e];exact q2⟩
  ·rw[ay hi]at ho
   exact .inl ⟨ho,fun e=>hi (by cases e;rfl),fun h=>absurd h (gU _)⟩
theorem Wm{v:V}{d:Nat}(h:v.cq d=false):∀u∈v.cells,u.cq d=false:=fun u hu=>by
 cases v with
 |agg cs=>exact V9 h hu
 |_=>simp[V.cells]at hu;subst hu;exact h
theorem ah7{o:Oper}{t:TypeId}{i:TypeInfo}{z:Value}{id:Nat}{cells:List V}{C:bD}(ho:o.op=.alloc t)(hi:P.info? t=some i)(hz:i.zero=some z)(hc:vq z.cells.toList cells=true)
  (hn:S.eN id) (hR:R E g S a w) (hd:∀d,o.dst=some d→d<E.nt) (hrun:VO.run C o.dst S (.obj id cells)=some S'):ch P E o S S' a w:=by
 simp only[VO.run]at hrun;cases hrun;obtain⟨hl,hx⟩:=Es (X:=S.cx g w) hc;obtain⟨g',jG,hκ,_⟩:=hR.newObj (w':=w.alloc (.cells z.cells t)) hn rfl rfl rfl rfl (cs:=cells) (fun j v hj=>by
  have bE:j<z.cells.size:=by have:=eQ hj;simp at hl;omega
  obtain⟨q1,q2,q3⟩:=hx j v z.cells[j] hj (by simp[bE])
  exact⟨q1,q2 _,z.cells[j],by simp[bE],q3⟩)
 refine ch.value (x:=.pointer (some ⟨w.heap.size,0,none⟩)) (w':=w.alloc (.cells z.cells t)) (g':=g') ?_ (jG.put hd ?_)
 ·simp[execOp,ho,Instr.alloc,zeroValue,typeInfo,hi,hz,newVar,newRow]
 ·rw[←hκ];exact .bJ id 0
theorem ah8{o:Oper}{t:TypeId}{id:Nat}{p:Operand}{x:bw}{C:bD}(ho:o.op=.box t p)(hp:bU p x=true)
  (hn:S.eN id) (Ew:∀v,S.ev x=some v→v.cq id=false) (hR:R E g S a w) (hd:∀d,o.dst=some d→d<E.nt) (hrun:VO.run C o.dst S (.box id x)=some S'):ch P E o S S' a w:=by
 simp only[VO.run]at hrun;split at hrun
 ·rename_i v hv
  cases hc:v.cells.all V.cL with
  |false=>simp[hc]at hrun
  |true =>
   simp only[hc,bG]at hrun;cases hrun;have qV:∀u∈v.cells,u.cL=true:=by simpa [g8] using hc
   obtain⟨hl,hx⟩:=Eu (cY hR hp hv) qV;obtain⟨g',jG,hκ,_⟩:=hR.newObj (w':=w.alloc (.cells (a.eval p).cells t)) hn rfl rfl rfl rfl (cs:=v.cells) (fun j u hj=>by
    have bE:j<(a.eval p).cells.size:=by have:=eQ hj;simp at hl;omega
    exact⟨qV u (fW hj),Wm (Ew v hv) u (fW hj),(a.eval p).cells[j],by simp[bE],hx j u _ hj (by simp[bE])⟩)
   refine ch.value (x:=.pointer (some ⟨w.heap.size,0,none⟩)) (w':=w.alloc (.cells (a.eval p).cells t)) (g':=g') ?_ (jG.put hd ?_)
   ·simp[execOp,ho,Instr.box,newVar,newRow]
   ·rw[←hκ];exact .bJ id 0
 ·cases hrun
end
end Go.Vm
