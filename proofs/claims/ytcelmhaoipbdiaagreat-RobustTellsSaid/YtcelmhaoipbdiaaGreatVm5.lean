/- The value machine, 5: the operations that read, write and make memory. -/
import Derived.Laws.CopyRow
import Derived.Test.YtcelmhaoipbdiaaGreatVm4
namespace Go.Vm
set_option linter.all false
section
variable {P:Program} {E:Entry} {g g':Gh} {S S':St} {a:Act} {w w':World} {T':List (Nat×Nat)} {N' B:Nat} {dk dt:Option Nat}
theorem uI{X:Cx}{v:V}{x:Value}(h:v.plain=true):WU X v x:=fun f n es e=>by subst e;simp[V.plain]at h
theorem W6(hR:R E g S a w){p:V}{x:Value}(hr:bf (S.cx g w) p x){cs:List V}{off:Nat}(hc:S.nY p=some (cs,off)) :
  ∃b o,x=.pointer (some ⟨b,o+off,none⟩)∧∀(j:Nat) (v:V),cs[j]?=some v→∃y,cellAt w.heap b (o+j)=some y∧bf (S.cx g w) v y:=by
 unfold St.nY at hc;split at hc
 ·split at hc
  ·rename_i i f q ei ho
   cases hc;rcases hR.aZ i _ ho with⟨h0,_⟩ | ⟨_,_,_,c,e,hh,_,hj⟩
   ·subst h0;exact⟨g.κ i,0,by rw[Bu hr,kz];rfl,fun j v hv=>by simp at hv⟩
   refine⟨g.κ i,0,by rw[Bu hr,kz];rfl,fun j v hv=>?_⟩
   obtain⟨_,y,hy,hx⟩:=hj j v hv;exact⟨y,by rw[lP hh,kz];exact hy,hx⟩
  ·cases hc
 ·split at hc
  ·rename_i i f q ei ho
   cases hc;obtain⟨e,hi⟩:=Bw hr;rcases hR.aD.obj i _ ho with h0 | ⟨_,hm,c,et,hh,hl,hj⟩
   ·cases h0;exact⟨g.γ i,0,by rw[e,kz];rfl,fun j v hv=>by simp at hv⟩
   refine⟨g.γ i,0,by rw[e,kz];rfl,fun j v hv=>?_⟩
   have bI:j<c.size:=ja (fa hv) hl;obtain⟨_,h2,h3⟩:=hj j v c[j] hv (by simp[bI])
   refine⟨c[j],by rw[lP hh,kz];simp[bI],h3.mono ?_ (fun i=>.inr (h2 i))⟩
   exact⟨bY _,fun _ _ _ _ h=>h,fun _ _=>bY _,bY _,fun _ _=>rfl⟩
  ·cases hc
 ·cases hc
  cases hr with
  |plain h _=>cases h
  |e8 row _ b o ys hb h1 h2 hp hm=>exact⟨b,o,rfl,fun j v hj=>⟨ys j,h1 j v hj,.plain (h2 j v hj) (uI (hp j v hj))⟩⟩
 ·cases hc
def l9(P:Program)(t:TypeId):Option Bool :=
 match P.underlying t with
 |some (.struct _)|some (.array _ _)=>some true
 |some _=>some false
 |none=>none
def fw(P:Program)(t:TypeId):Option Nat:=(P.info? t).map (·.size)
def sR(P:Program)(t:TypeId)(sz:Option Nat):Bool :=
 match sz with
 |none=>l9 P t==some false&&fw P t==some 1
 |some n=>l9 P t==some true&&fw P t==some n
theorem C8{t:TypeId}{b:Bool}(h:l9 P t=some b):(isAgg t).run P w=.ok b w:=by
 unfold l9 at h;unfold isAgg;split at h
 ·rename_i hu;cases h;simp[jC hu]
 ·rename_i hu;cases h;simp[jC hu]
 ·rename_i d h1 h2 hu
  cases h;simp only[Sem.run_bind,jC hu,Result.andThen_ok];cases d<;>first|rfl|exact absurd rfl (h1 _)|exact absurd rfl (h2 _ _)
 ·cases h
theorem Lc{t:TypeId}{sz:Option Nat}(hs:sR P t sz=true){cs:List V}{off b o:Nat}{v:V}{X:Cx}
  (hc:∀(j:Nat) (v:V),cs[j]?=some v→∃y,cellAt w.heap b (o+j)=some y∧bf X v y) (hv:loadAt sz cs off=some v) :
  ∃x,(loadVar t ⟨b,o+off,none⟩).run P w=.ok x w∧bf X v x:=by
 unfold loadAt at hv;unfold sR at hs;cases sz with
 |none =>
  simp only[b8,eg]at hs;obtain⟨y,hy,hr⟩:=hc off v hv;refine⟨y,?_,hr⟩;simp[loadVar,C8 hs.1,cell?_eq,hy]
 |some n =>
  simp only[b8,eg]at hs;simp only at hv;cases hle:Nat.ble (off+n) cs.length with
  |false=>simp[hle]at hv
  |true =>
   simp only[hle,bM,Option.some.injEq]at hv;have hle:=jk hle;subst hv;have hf:∀j,j<n→w.cell? ((⟨b,o+off,none⟩:Addr).add j)=some ((cellAt w.heap b (o+off+j)).getD undef):=fun j hj=>by
    obtain⟨y,hy,_⟩:=hc (off+j) cs[off+j] (g8 (by omega))
    rw[lg,cell?_eq,show o+off+j=o+(off+j) from by omega,hy]
    rfl
   refine⟨.agg ((List.range n).map fun j=>(cellAt w.heap b (o+off+j)).getD undef).toArray,?_,.agg _ _ ?_ fun j u y hu hy=>?_⟩
   ·simp[loadVar,C8 hs.1,pC hs.2,run_loadCells w _ n _ hf]
   ·simp;omega
   ·simp only[lN,oF]at hu
    split at hu
    ·rename_i hj
     obtain⟨z,hz,hr⟩:=hc (off+j) u hu;simp[hj]at hy;rw[show o+off+j=o+(off+j) from by omega,hz]at hy
     simp at hy;exact hy ▸ hr
    ·cases hu
theorem aiP{o:Oper}{t:TypeId}{root:j8}{sz:Option Nat}{p:Operand}{x:bA}{C:bD}(ho:o.op=.load t p)(hs:sR P t sz=true)(hp:bZ p x=true)
  (hR:R E g S a w) (hd:∀d,o.dst=some d→d<E.nt) (ah:VO.run C o.dst S (.load root sz x)=some S'):ct P E o S S' a w:=by
 simp only[VO.run]at ah;split at ah
 ·rename_i u hu
  cases fZ:root.fits u with
  |false=>simp[fZ]at ah
  |true =>
   simp only[fZ,bM]at ah;split at ah
   ·rename_i cs off hc
    split at ah
    ·rename_i v hv
     cases ah;obtain⟨b,f,e,eX⟩:=W6 hR (c9 hR hp hu) hc;obtain⟨z,hz,hr⟩:=Lc (w:=w) hs eX hv;refine ct.put hR hd (x:=z) ?_ (air hr);simp[execOp,ho,Instr.loadAt,e,Instr.sureAddr,hz]
    ·cases ah
   ·cases ah
 ·cases ah
theorem W7{t:TypeId}{sz:Option Nat}(hs:sR P t sz=true){cs:List V}{xs:Array Value}{off:Nat}{v:V}{X:Cx}(hl:cs.length=xs.size)
  (hc:∀(j:Nat) (v:V) (y:Value),cs[j]?=some v→xs[j]?=some y→bf X v y) (hv:loadAt sz cs off=some v) :
  ∃x,(part t xs off).run P w=.ok x w∧bf X v x:=by
 unfold loadAt at hv;unfold sR at hs;cases sz with
 |none =>
  simp only[b8,eg]at hs;have bI:off<xs.size:=by rw[←hl];exact fa hv
  refine⟨xs[off],?_,hc off v xs[off] hv (by simp[bI])⟩
  simp[part,C8 hs.1,bI]
 |some n =>
  simp only[b8,eg]at hs;simp only at hv;cases hle:Nat.ble (off+n) cs.length with
  |false=>simp[hle]at hv
  |true =>
   simp only[hle,bM,Option.some.injEq]at hv;have hle:=jk hle;subst hv;refine⟨.agg (xs.extract off (off+n)),?_,.agg _ _ ?_ fun j u y hu hy=>?_⟩
   ·simp[part,C8 hs.1,pC hs.2]
   ·simp;omega
   ·simp only[lN,oF]at hu
    split at hu
    ·rename_i hj
     refine hc (off+j) u y hu ?_;rw[Wv]at hy;split at hy
     ·exact hy
     ·cases hy
    ·cases hu
theorem aiQ{o:Oper}{t:TypeId}{fs:Array Field}{f:Field}{fi off:Nat}{sz:Option Nat}{p:Operand}{x:bA}{C:bD}(ho:o.op=.field t p fi)(ht:P.underlying t=some (.struct fs))
  (hf:fs[fi]?=some f) (jS:f.offset=off) (hs:sR P f.type sz=true) (hp:bZ p x=true)
  (hR:R E g S a w) (hd:∀d,o.dst=some d→d<E.nt) (ah:VO.run C o.dst S (.field off sz x)=some S'):ct P E o S S' a w:=by
 simp only[VO.run]at ah;split at ah
 ·rename_i cs hu
  split at ah
  ·rename_i v hv
   cases ah;obtain⟨xs,e,hl,hx⟩:=rU (c9 hR hp hu);obtain⟨z,hz,hr⟩:=W7 (w:=w) hs hl hx hv;refine ct.put hR hd (x:=z) ?_ hr;simp[execOp,ho,Instr.field,jC ht,hf,e,asAgg,jS,hz]
  ·cases ah
 ·cases ah
theorem aiR{o:Oper}{t el:TypeId}{len n:Nat}{ag:Bool}{p q:Operand}{x i:bA}{C:bD}(ho:o.op=.index t p q)(ht:P.underlying t=some (.array len el))
  (hs:sR P el (bif ag then some n else none)=true) (hn:fw P el=some n) (hp:bZ p x=true) (hq:bZ q i=true)
  (hR:R E g S a w) (hd:∀d,o.dst=some d→d<E.nt) (ah:VO.run C o.dst S (.idx len n ag x i)=some S'):ct P E o S S' a w:=by
 simp only[VO.run]at ah;split at ah
 ·rename_i cs k m hu hm
  have e2:=nh (c9 hR hq hm);cases hc:(decide (0≤m)&&decide (m<(len:Int))) with
  |false=>simp[hc]at ah
  |true =>
   simp only[hc,bM]at ah;simp only[b8,kA]at hc;split at ah
   ·rename_i v hv
    cases ah;obtain⟨xs,e,hl,hx⟩:=rU (c9 hR hp hu);obtain⟨z,hz,hr⟩:=W7 (w:=w) hs hl hx hv;refine ct.put hR hd (x:=z) ?_ hr;simp[execOp,ho,Instr.index,asIntOf,e2,jC ht,e,pC hn,hc,hz]
   ·cases ah
 ·cases ah
theorem R.HC(t:Touch E g S w g' T' N' w' B dk dt)(hR:R E g S a w)(hT:S'.bl=T')(hN:S'.aD.length=N')
  (mz:∀i,jB (S.cx g w) ⟨w'.heap,g',N',T'⟩ i∨S.fb i)
  (HD:∀s v,look s S'.env=some v→look s S.env=some v∨∃x,a.tmps[s]?=some x∧bf ⟨w'.heap,g',N',T'⟩ v x)
  (HE:∀id cs,look id S'.aZ=some cs→(look id S.aZ=some cs∧dk≠some id∧(B<w.heap.size→g.ow B≠.obj id)) ∨
   (g'.ow (g'.κ id)=.obj id∧E.w0.heap.size≤g'.κ id∧g'.m (g'.κ id)=0 ∧
    ∃c e,w'.heap[g'.κ id]?=some (.cells c e (0,0))∧g'.cp id≤c.size∧∀(j:Nat) (v:V),cs[j]?=some v→v.cQ=true∧∃y,c[j]?=some y∧bf ⟨w'.heap,g',N',T'⟩ v y))
  (tH:∀f k b,look f T'=some k→g'.τ f=some b→(dt≠some f∧(B<w.heap.size→g.ow B≠.tok f))∨(g'.ow b=.tok f∧(E.w0.heap.size≤b∨E.own b)∧b<w'.heap.size))
  (By:∀i o,S'.aD[i]?=some o→o≠.cells []→(S.aD[i]?=some o∧(B<w.heap.size→g.ow B≠.aD i∧∀j,g.ow B≠.cell (g.γ i) j))∨(g'.ow (g'.γ i)=.aD i∧HA w'.heap g' N' (g'.γ i) o∧C3 w'.heap g' (g'.γ i) o)):R E g' S' a w':=by
 have ni:S'.cx g' w'=⟨w'.heap,g',N',T'⟩:=by simp[St.cx,hT,hN]
 refine⟨fun s v hs=>?_,fun id cs ho=>?_,fun f k b hf hb=>?_,⟨fun i o ho=>?_,fun i o ho=>?_,fun b i ho=>?_⟩,hR.defers,hR.kb,by rw[hN];exact t.same hR⟩
 ·rw[ni]
  rcases HD s v hs with h|h
  ·exact t.env hR (fun i=>(mz i).imp (fun z=>z) fun h=>h.env) s v h
  ·exact h
 ·rw[ni]
  rcases HE id cs ho with⟨h1,h2,h3⟩ | h
  ·exact t.obj hR h1 h2 h3 (fun i=>(mz i).imp (fun z=>z) fun h v hv=>uF (h.aZ id cs h1 v hv))
  ·exact .inr h
 ·rw[hT]at hf
  rcases tH f k b hf hb with⟨h1,h2⟩ | h
  ·exact t.tok hR hf hb h1 h2
  ·exact h
 ·rw[hN]
  by_cases h0:o=.cells []
  ·exact .inl h0
  rcases By i o ho h0 with⟨h1,h2⟩ | h
  ·exact t.ail hR h1 fun hb=>(h2 hb).1
  ·exact .inr ⟨h.1,h.2.1⟩
 ·by_cases h0:o=.cells []
  ·subst h0;exact fun j n es y hj=>by simp at hj
  rcases By i o ho h0 with⟨h1,h2⟩ | h
  ·exact t.owns hR h1 h2
  ·exact h.2.2
 ·rw[hN]
  by_cases cq:b=B
  ·subst cq;exact⟨(t.lv i ho).1,(t.lv i ho).2.1⟩
  ·rw[t.ow b cq]at ho
   obtain⟨h1,h2⟩:=hR.aD.z b i ho;exact⟨(t.m b cq).trans h1,ja h2 t.eW⟩
theorem R.oQ(t:Touch E g S w g' T' N' w' B dk dt)(hR:R E g S a w)(hT:S'.bl=T')(hN:S'.aD.length=N')
  (mz:∀i,jB (S.cx g w) ⟨w'.heap,g',N',T'⟩ i∨S.fb i)
  (HD:∀s v,look s S'.env=some v→look s S.env=some v∨∃x,a.tmps[s]?=some x∧bf ⟨w'.heap,g',N',T'⟩ v x)
  (HE:∀id cs,look id S'.aZ=some cs→(look id S.aZ=some cs∧dk≠some id∧(B<w.heap.size→g.ow B≠.obj id)) ∨
   (g'.ow (g'.κ id)=.obj id∧E.w0.heap.size≤g'.κ id∧g'.m (g'.κ id)=0 ∧
    ∃c e,w'.heap[g'.κ id]?=some (.cells c e (0,0))∧g'.cp id≤c.size∧∀(j:Nat) (v:V),cs[j]?=some v→v.cQ=true∧∃y,c[j]?=some y∧bf ⟨w'.heap,g',N',T'⟩ v y))
  (tH:∀f k b,look f T'=some k→g'.τ f=some b→(dt≠some f∧(B<w.heap.size→g.ow B≠.tok f))∨(g'.ow b=.tok f∧(E.w0.heap.size≤b∨E.own b)∧b<w'.heap.size))
  (By:∀i o,S'.aD[i]?=some o→(S.aD[i]?=some o∧(B<w.heap.size→g.ow B≠.aD i∧∀j,g.ow B≠.cell (g.γ i) j))∨(g'.ow (g'.γ i)=.aD i∧HA w'.heap g' N' (g'.γ i) o∧C3 w'.heap g' (g'.γ i) o)):R E g' S' a w' :=
 R.HC t hR hT hN mz HD HE tH fun i o h _=>By i o h
def df{α:Type}(f:Nat→α)(k:Nat)(v:α):Nat→α:=fun i=>if i=k then v else f i
theorem dS{α:Type}(f:Nat→α)(k:Nat)(v:α):df f k v k=v:=by simp[df]
theorem gC{α:Type}(f:Nat→α){k i:Nat}(v:α)(h:i≠k):df f k v i=f i:=by simp[df,h]
theorem HF{ob:Obj}(hR:R E g S a w)(hw:w'.heap=w.heap.push ob)(h1:w'.os=w.os)(h2:w'.tape=w.tape)(h3:w'.output=w.output)
  (hm:∀b,b≠w.heap.size→g'.m b=g.m b) (cB:∀b,b≠w.heap.size→g'.ow b=g.ow b)
  (hκ:∀i,dk≠some i→g'.κ i=g.κ i) (fY:∀i,dk≠some i→g'.cp i=g.cp i) (hτ:∀i,dt≠some i→g'.τ i=g.τ i) (hT:∀i,dt≠some i→look i T'=look i S.bl)
  (hγ:∀i,i<S.aD.length→g'.γ i=g.γ i) (hN:S.aD.length≤N') (hγn:∀i,S.aD.length≤i→i<N'→E.w0.heap.size≤g'.γ i) (yn:∀i,g'.ow w.heap.size=.aD i→g'.m w.heap.size=0∧i<N') :
  Touch E g S w g' T' N' w' w.heap.size dk dt where
 os:=h1
 tape:=h2
 output:=h3
 size:=by rw[hw];simp
 heap:=fun b _ hb=>by rw[hw,Ww,av (by omega)]
 m:=hm
 ow:=cB
 κ:=hκ
 cp:=fY
 τ:=hτ
 T:=hT
 γ:=hγ
 eW:=hN
 γnew:=hγn
 fresh:=.inl hR.same.size
 iW:=fun _ _ h _=>absurd hR.same.size (CV h)
 lv:=fun i h=>⟨(yn i h).1,(yn i h).2,fun h=>absurd hR.same.size (CV h)⟩
 kN:=fun o y _ hy=>absurd (Bs hy) (iC _)
 qH:=fun h=>absurd h (iC _)
theorem HH{c:Array Value}{e:TypeId}(hw:w'.heap=w.heap.push (.cells c e (0,0))):w'.heap[w.heap.size]?=some (.cells c e (0,0)):=by
 rw[hw];simp
theorem R.newObj(hR:R E g S a w){id:Nat}(hn:S.fb id){c:Array Value}{e:TypeId}(hw:w'.heap=w.heap.push (.cells c e (0,0)))(h1:w'.os=w.os)(h2:w'.tape=w.tape)(h3:w'.output=w.output)
  {cs:List V} (eX:∀(j:Nat) (v:V),cs[j]?=some v→v.cQ=true∧v.cA id=false∧∃y,c[j]?=some y∧bf (S.cx g w) v y) (cpn:Nat:=0) (hcpn:cpn≤c.size:=by exact xZ _) :
  ∃g',R E g' { S with aZ:=(id,cs)::S.aZ } a w'∧g'.κ id=w.heap.size∧g'.cp id=cpn:=by
 let g':Gh:={ g with m:=df g.m w.heap.size 0,κ:=df g.κ id w.heap.size,cp:=df g.cp id cpn,ow:=df g.ow w.heap.size (.obj id) }
 have t:Touch E g S w g' S.bl S.aD.length w' w.heap.size (some id) none:=HF hR hw h1 h2 h3 (fun b hb=>gC _ _ hb) (fun b hb=>gC _ _ hb)
  (fun i hi=>gC _ _ (fun e=>hi (by rw[e]))) (fun i hi=>gC _ _ (fun e=>hi (by rw[e]))) (fun i _=>rfl) (fun i _=>rfl) (fun i _=>rfl) (bY _) (fun i a b=>absurd a (by omega))
  (fun i e=>by(have e:df g.ow w.heap.size (.obj id) w.heap.size=.aD i:=e);rw[dS]at e;cases e)
 have mz:∀i,jB (S.cx g w) ⟨w'.heap,g',S.aD.length,S.bl⟩ i∨i=id:=fun i=>by
  by_cases hi:i=id
  ·exact .inr hi
  ·exact .inl (t.keeps hR (fun e=>hi (by cases e;rfl)) (fun e=>by cases e) (fun h=>absurd h (iC _)))
 refine⟨g',R.oQ t hR rfl rfl (fun i=>(mz i).imp (fun z=>z) fun e=>by rw[e];exact hn) (fun s v hs=>.inl hs) (fun i ei ho=>?_) (fun f k b hf hb=>.inl ⟨(fun e=>by cases e),fun h=>absurd h (iC _)⟩)
  (fun i o ho=>.inl ⟨ho,fun h=>absurd h (iC _)⟩),dS _ _ _,dS _ _ _⟩
 ·rw[dL]at ho
  by_cases hi:id=i
  ·subst hi
   rw[aK rfl]at ho;cases ho;refine .inr ⟨?_,?_,?_,c,e,?_,(by show df g.cp _ _ _≤_;rw[dS];exact hcpn),fun j v hj=>?_⟩
   ·show df g.ow _ _ (df g.κ _ _ _)=_;rw[dS,dS]
   ·show _≤df g.κ _ _ _;rw[dS];exact hR.same.size
   ·show df g.m _ _ (df g.κ _ _ _)=_;rw[dS,dS]
   ·show w'.heap[df g.κ _ _ _]?=_;rw[dS];exact HH hw
   ·obtain⟨q1,q2,y,q3,q4⟩:=eX j v hj
    exact⟨q1,y,q3,q4.mono t.le fun i=>(mz i).imp (fun z=>z) fun e=>by rw[e];exact q2⟩
  ·rw[av hi]at ho
   exact .inl ⟨ho,fun e=>hi (by cases e;rfl),fun h=>absurd h (iC _)⟩
theorem W8{v:V}{d:Nat}(h:v.cA d=false):∀u∈v.cells,u.cA d=false:=fun u hu=>by
 cases v with
 |agg cs=>exact WV h hu
 |_=>simp[V.cells]at hu;subst hu;exact h
theorem aiS{o:Oper}{t:TypeId}{i:TypeInfo}{z:Value}{id:Nat}{cells:List V}{C:bD}(ho:o.op=.alloc t)(hi:P.info? t=some i)(hz:i.zero=some z)(hc:vH z.cells.toList cells=true)
  (hn:S.fb id) (hR:R E g S a w) (hd:∀d,o.dst=some d→d<E.nt) (ah:VO.run C o.dst S (.obj id cells)=some S'):ct P E o S S' a w:=by
 simp only[VO.run]at ah;cases ah;obtain⟨hl,hx⟩:=EV (X:=S.cx g w) hc;obtain⟨g',kd,hκ,_⟩:=hR.newObj (w':=w.alloc (.cells z.cells t)) hn rfl rfl rfl rfl (cs:=cells) (fun j v hj=>by
  have bI:j<z.cells.size:=by have:=fa hj;simp at hl;omega
  obtain⟨q1,q2,q3⟩:=hx j v z.cells[j] hj (by simp[bI])
  exact⟨q1,q2 _,z.cells[j],by simp[bI],q3⟩)
 refine ct.value (x:=.pointer (some ⟨w.heap.size,0,none⟩)) (w':=w.alloc (.cells z.cells t)) (g':=g') ?_ (kd.put hd ?_)
 ·simp[execOp,ho,Instr.alloc,zeroValue,typeInfo,hi,hz,newVar,newRow]
 ·rw[←hκ];exact .bj id 0
theorem aiT{o:Oper}{t:TypeId}{id:Nat}{p:Operand}{x:bA}{C:bD}(ho:o.op=.box t p)(hp:bZ p x=true)
  (hn:S.fb id) (Ld:∀v,S.ev x=some v→v.cA id=false) (hR:R E g S a w) (hd:∀d,o.dst=some d→d<E.nt) (ah:VO.run C o.dst S (.box id x)=some S'):ct P E o S S' a w:=by
 simp only[VO.run]at ah;split at ah
 ·rename_i v hv
  cases hc:v.cells.all V.cQ with
  |false=>simp[hc]at ah
  |true =>
   simp only[hc,bM]at ah;cases ah;have yo:∀u∈v.cells,u.cQ=true:=by simpa [iL] using hc
   obtain⟨hl,hx⟩:=EX (c9 hR hp hv) yo;obtain⟨g',kd,hκ,_⟩:=hR.newObj (w':=w.alloc (.cells (a.eval p).cells t)) hn rfl rfl rfl rfl (cs:=v.cells) (fun j u hj=>by
    have bI:j<(a.eval p).cells.size:=by have:=fa hj;simp at hl;omega
    exact⟨yo u (g9 hj),W8 (Ld v hv) u (g9 hj),(a.eval p).cells[j],by simp[bI],hx j u _ hj (by simp[bI])⟩)
   refine ct.value (x:=.pointer (some ⟨w.heap.size,0,none⟩)) (w':=w.alloc (.cells (a.eval p).cells t)) (g':=g') ?_ (kd.put hd ?_)
   ·simp[execOp,ho,Instr.box,newVar,newRow]
   ·rw[←hκ];exact .bj id 0
 ·cases ah
end
end Go.Vm
