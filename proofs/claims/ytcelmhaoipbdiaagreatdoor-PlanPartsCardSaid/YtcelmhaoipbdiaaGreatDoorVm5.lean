/- The value machine, 5: the operations that read, write and make memory. -/
import Derived.Laws.CopyRow
import Derived.Test.YtcelmhaoipbdiaaGreatDoorVm4
namespace Go.Vm
set_option linter.all false
section
variable {P:Program} {E:Entry} {g g':Gh} {S S':St} {a:Act} {w w':World} {T':List (Nat×Nat)} {N' B:Nat} {dk dt:Option Nat}
theorem tc{X:Cx}{v:V}{x:Value}(h:v.plain=true):SV X v x:=fun f n es e=>by subst e;simp[V.plain]at h
theorem Tb(hR:R E g S a w){p:V}{x:Value}(hr:aZ (S.cx g w) p x){cs:List V}{off:Nat}(hc:S.mU p=some (cs,off)) :
  ∃b o,x=.pointer (some ⟨b,o+off,none⟩)∧∀(j:Nat) (v:V),cs[j]?=some v→∃y,cellAt w.heap b (o+j)=some y∧aZ (S.cx g w) v y:=by
 unfold St.mU at hc;split at hc
 ·split at hc
  ·rename_i i f q dQ ho
   cases hc;rcases hR.aW i _ ho with⟨h0,_⟩ | ⟨_,_,_,c,e,hh,_,hj⟩
   ·subst h0;exact⟨g.κ i,0,by rw[zM hr,jz];rfl,fun j v hv=>by simp at hv⟩
   refine⟨g.κ i,0,by rw[zM hr,jz];rfl,fun j v hv=>?_⟩
   obtain⟨_,y,hy,hx⟩:=hj j v hv;exact⟨y,by rw[kr hh,jz];exact hy,hx⟩
  ·cases hc
 ·split at hc
  ·rename_i i f q dQ ho
   cases hc;obtain⟨e,hi⟩:=zN hr;rcases hR.ay.obj i _ ho with h0 | ⟨_,hm,c,et,hh,hl,hj⟩
   ·cases h0;exact⟨g.γ i,0,by rw[e,jz];rfl,fun j v hv=>by simp at hv⟩
   refine⟨g.γ i,0,by rw[e,jz];rfl,fun j v hv=>?_⟩
   have bB:j<c.size:=iq (eJ hv) hl;obtain⟨_,h2,h3⟩:=hj j v c[j] hv (by simp[bB])
   refine⟨c[j],by rw[kr hh,jz];simp[bB],h3.mono ?_ (fun i=>.inr (h2 i))⟩
   exact⟨bR _,fun _ _ _ _ h=>h,fun _ _=>bR _,bR _,fun _ _=>rfl⟩
  ·cases hc
 ·cases hc
  cases hr with
  |plain h _=>cases h
  |eI row _ b o ys hb h1 h2 hp hm=>exact⟨b,o,rfl,fun j v hj=>⟨ys j,h1 j v hj,.plain (h2 j v hj) (tc (hp j v hj))⟩⟩
 ·cases hc
def kJ(P:Program)(t:TypeId):Option Bool :=
 match P.underlying t with
 |some (.struct _)|some (.array _ _)=>some true
 |some _=>some false
 |none=>none
def eW(P:Program)(t:TypeId):Option Nat:=(P.info? t).map (·.size)
def qL(P:Program)(t:TypeId)(sz:Option Nat):Bool :=
 match sz with
 |none=>kJ P t==some false&&eW P t==some 1
 |some n=>kJ P t==some true&&eW P t==some n
theorem Be{t:TypeId}{b:Bool}(h:kJ P t=some b):(isAgg t).run P w=.ok b w:=by
 unfold kJ at h;unfold isAgg;split at h
 ·rename_i hu;cases h;simp[iN hu]
 ·rename_i hu;cases h;simp[iN hu]
 ·rename_i d h1 h2 hu
  cases h;simp only[Sem.run_bind,iN hu,Result.andThen_ok];cases d<;>first|rfl|exact absurd rfl (h1 _)|exact absurd rfl (h2 _ _)
 ·cases h
theorem IW{t:TypeId}{sz:Option Nat}(hs:qL P t sz=true){cs:List V}{off b o:Nat}{v:V}{X:Cx}
  (hc:∀(j:Nat) (v:V),cs[j]?=some v→∃y,cellAt w.heap b (o+j)=some y∧aZ X v y) (hv:loadAt sz cs off=some v) :
  ∃x,(loadVar t ⟨b,o+off,none⟩).run P w=.ok x w∧aZ X v x:=by
 unfold loadAt at hv;unfold qL at hs;cases sz with
 |none =>
  simp only[bQ,dO]at hs;obtain⟨y,hy,hr⟩:=hc off v hv;refine⟨y,?_,hr⟩;simp[loadVar,Be hs.1,cell?_eq,hy]
 |some n =>
  simp only[bQ,dO]at hs;simp only at hv;cases hle:Nat.ble (off+n) cs.length with
  |false=>simp[hle]at hv
  |true =>
   simp only[hle,bC,Option.some.injEq]at hv;have hle:=iD hle;subst hv;have hf:∀j,j<n→w.cell? ((⟨b,o+off,none⟩:Addr).add j)=some ((cellAt w.heap b (o+off+j)).getD undef):=fun j hj=>by
    obtain⟨y,hy,_⟩:=hc (off+j) cs[off+j] (gG (by omega))
    rw[jX,cell?_eq,show o+off+j=o+(off+j) from by omega,hy]
    rfl
   refine⟨.agg ((List.range n).map fun j=>(cellAt w.heap b (o+off+j)).getD undef).toArray,?_,.agg _ _ ?_ fun j u y hu hy=>?_⟩
   ·simp[loadVar,Be hs.1,nZ hs.2,run_loadCells w _ n _ hf]
   ·simp;omega
   ·simp only[kn,nT]at hu
    split at hu
    ·rename_i hj
     obtain⟨z,hz,hr⟩:=hc (off+j) u hu;simp[hj]at hy;rw[show o+off+j=o+(off+j) from by omega,hz]at hy
     simp at hy;exact hy ▸ hr
    ·cases hu
theorem adF{o:Oper}{t:TypeId}{root:jc}{sz:Option Nat}{p:Operand}{x:bp}{C:br}(ho:o.op=.load t p)(hs:qL P t sz=true)(hp:bO p x=true)
  (hR:R E g S a w) (hd:∀d,o.dst=some d→d<E.nt) (ah:VO.run C o.dst S (.load root sz x)=some S'):cd P E o S S' a w:=by
 simp only[VO.run]at ah;split at ah
 ·rename_i u hu
  cases fu:root.fits u with
  |false=>simp[fu]at ah
  |true =>
   simp only[fu,bC]at ah;split at ah
   ·rename_i cs off hc
    split at ah
    ·rename_i v hv
     cases ah;obtain⟨b,f,e,eB⟩:=Tb hR (cS hR hp hu) hc;obtain⟨z,hz,hr⟩:=IW (w:=w) hs eB hv;refine cd.put hR hd (x:=z) ?_ (adh hr);simp[execOp,ho,Instr.loadAt,e,Instr.sureAddr,hz]
    ·cases ah
   ·cases ah
 ·cases ah
theorem Tc{t:TypeId}{sz:Option Nat}(hs:qL P t sz=true){cs:List V}{xs:Array Value}{off:Nat}{v:V}{X:Cx}(hl:cs.length=xs.size)
  (hc:∀(j:Nat) (v:V) (y:Value),cs[j]?=some v→xs[j]?=some y→aZ X v y) (hv:loadAt sz cs off=some v) :
  ∃x,(part t xs off).run P w=.ok x w∧aZ X v x:=by
 unfold loadAt at hv;unfold qL at hs;cases sz with
 |none =>
  simp only[bQ,dO]at hs;have bB:off<xs.size:=by rw[←hl];exact eJ hv
  refine⟨xs[off],?_,hc off v xs[off] hv (by simp[bB])⟩
  simp[part,Be hs.1,bB]
 |some n =>
  simp only[bQ,dO]at hs;simp only at hv;cases hle:Nat.ble (off+n) cs.length with
  |false=>simp[hle]at hv
  |true =>
   simp only[hle,bC,Option.some.injEq]at hv;have hle:=iD hle;subst hv;refine⟨.agg (xs.extract off (off+n)),?_,.agg _ _ ?_ fun j u y hu hy=>?_⟩
   ·simp[part,Be hs.1,nZ hs.2]
   ·simp;omega
   ·simp only[kn,nT]at hu
    split at hu
    ·rename_i hj
     refine hc (off+j) u y hu ?_;rw[Sq]at hy;split at hy
     ·exact hy
     ·cases hy
    ·cases hu
theorem adG{o:Oper}{t:TypeId}{fs:Array Field}{f:Field}{fi off:Nat}{sz:Option Nat}{p:Operand}{x:bp}{C:br}(ho:o.op=.field t p fi)(ht:P.underlying t=some (.struct fs))
  (hf:fs[fi]?=some f) (iW:f.offset=off) (hs:qL P f.type sz=true) (hp:bO p x=true)
  (hR:R E g S a w) (hd:∀d,o.dst=some d→d<E.nt) (ah:VO.run C o.dst S (.field off sz x)=some S'):cd P E o S S' a w:=by
 simp only[VO.run]at ah;split at ah
 ·rename_i cs hu
  split at ah
  ·rename_i v hv
   cases ah;obtain⟨xs,e,hl,hx⟩:=qb (cS hR hp hu);obtain⟨z,hz,hr⟩:=Tc (w:=w) hs hl hx hv;refine cd.put hR hd (x:=z) ?_ hr;simp[execOp,ho,Instr.field,iN ht,hf,e,asAgg,iW,hz]
  ·cases ah
 ·cases ah
theorem adH{o:Oper}{t el:TypeId}{len n:Nat}{ag:Bool}{p q:Operand}{x i:bp}{C:br}(ho:o.op=.index t p q)(ht:P.underlying t=some (.array len el))
  (hs:qL P el (bif ag then some n else none)=true) (hn:eW P el=some n) (hp:bO p x=true) (hq:bO q i=true)
  (hR:R E g S a w) (hd:∀d,o.dst=some d→d<E.nt) (ah:VO.run C o.dst S (.idx len n ag x i)=some S'):cd P E o S S' a w:=by
 simp only[VO.run]at ah;split at ah
 ·rename_i cs k m hu hm
  have e2:=lX (cS hR hq hm);cases hc:(decide (0≤m)&&decide (m<(len:Int))) with
  |false=>simp[hc]at ah
  |true =>
   simp only[hc,bC]at ah;simp only[bQ,jA]at hc;split at ah
   ·rename_i v hv
    cases ah;obtain⟨xs,e,hl,hx⟩:=qb (cS hR hp hu);obtain⟨z,hz,hr⟩:=Tc (w:=w) hs hl hx hv;refine cd.put hR hd (x:=z) ?_ hr;simp[execOp,ho,Instr.index,asIntOf,e2,iN ht,e,nZ hn,hc,hz]
   ·cases ah
 ·cases ah
theorem R.Ff(t:Touch E g S w g' T' N' w' B dk dt)(hR:R E g S a w)(hT:S'.bf=T')(hN:S'.ay.length=N')
  (lb:∀i,iM (S.cx g w) ⟨w'.heap,g',N',T'⟩ i∨S.eM i)
  (Fg:∀s v,look s S'.env=some v→look s S.env=some v∨∃x,a.tmps[s]?=some x∧aZ ⟨w'.heap,g',N',T'⟩ v x)
  (Fh:∀id cs,look id S'.aW=some cs→(look id S.aW=some cs∧dk≠some id∧(B<w.heap.size→g.ow B≠.obj id)) ∨
   (g'.ow (g'.κ id)=.obj id∧E.w0.heap.size≤g'.κ id∧g'.m (g'.κ id)=0 ∧
    ∃c e,w'.heap[g'.κ id]?=some (.cells c e (0,0))∧g'.cp id≤c.size∧∀(j:Nat) (v:V),cs[j]?=some v→v.cI=true∧∃y,c[j]?=some y∧aZ ⟨w'.heap,g',N',T'⟩ v y))
  (r7:∀f k b,look f T'=some k→g'.τ f=some b→(dt≠some f∧(B<w.heap.size→g.ow B≠.tok f))∨(g'.ow b=.tok f∧(E.w0.heap.size≤b∨E.own b)∧b<w'.heap.size))
  (zP:∀i o,S'.ay[i]?=some o→o≠.cells []→(S.ay[i]?=some o∧(B<w.heap.size→g.ow B≠.ay i∧∀j,g.ow B≠.cell (g.γ i) j))∨(g'.ow (g'.γ i)=.ay i∧Fc w'.heap g' N' (g'.γ i) o∧A8 w'.heap g' (g'.γ i) o)):R E g' S' a w':=by
 have lY:S'.cx g' w'=⟨w'.heap,g',N',T'⟩:=by simp[St.cx,hT,hN]
 refine⟨fun s v hs=>?_,fun id cs ho=>?_,fun f k b hf hb=>?_,⟨fun i o ho=>?_,fun i o ho=>?_,fun b i ho=>?_⟩,hR.defers,hR.jg,by rw[hN];exact t.same hR⟩
 ·rw[lY]
  rcases Fg s v hs with h|h
  ·exact t.env hR (fun i=>(lb i).imp (fun z=>z) fun h=>h.env) s v h
  ·exact h
 ·rw[lY]
  rcases Fh id cs ho with⟨h1,h2,h3⟩ | h
  ·exact t.obj hR h1 h2 h3 (fun i=>(lb i).imp (fun z=>z) fun h v hv=>s9 (h.aW id cs h1 v hv))
  ·exact .inr h
 ·rw[hT]at hf
  rcases r7 f k b hf hb with⟨h1,h2⟩ | h
  ·exact t.tok hR hf hb h1 h2
  ·exact h
 ·rw[hN]
  by_cases h0:o=.cells []
  ·exact .inl h0
  rcases zP i o ho h0 with⟨h1,h2⟩ | h
  ·exact t.ac9 hR h1 fun hb=>(h2 hb).1
  ·exact .inr ⟨h.1,h.2.1⟩
 ·by_cases h0:o=.cells []
  ·subst h0;exact fun j n es y hj=>by simp at hj
  rcases zP i o ho h0 with⟨h1,h2⟩ | h
  ·exact t.owns hR h1 h2
  ·exact h.2.2
 ·rw[hN]
  by_cases cf:b=B
  ·subst cf;exact⟨(t.lv i ho).1,(t.lv i ho).2.1⟩
  ·rw[t.ow b cf]at ho
   obtain⟨h1,h2⟩:=hR.ay.z b i ho;exact⟨(t.m b cf).trans h1,iq h2 t.eD⟩
theorem R.nB(t:Touch E g S w g' T' N' w' B dk dt)(hR:R E g S a w)(hT:S'.bf=T')(hN:S'.ay.length=N')
  (lb:∀i,iM (S.cx g w) ⟨w'.heap,g',N',T'⟩ i∨S.eM i)
  (Fg:∀s v,look s S'.env=some v→look s S.env=some v∨∃x,a.tmps[s]?=some x∧aZ ⟨w'.heap,g',N',T'⟩ v x)
  (Fh:∀id cs,look id S'.aW=some cs→(look id S.aW=some cs∧dk≠some id∧(B<w.heap.size→g.ow B≠.obj id)) ∨
   (g'.ow (g'.κ id)=.obj id∧E.w0.heap.size≤g'.κ id∧g'.m (g'.κ id)=0 ∧
    ∃c e,w'.heap[g'.κ id]?=some (.cells c e (0,0))∧g'.cp id≤c.size∧∀(j:Nat) (v:V),cs[j]?=some v→v.cI=true∧∃y,c[j]?=some y∧aZ ⟨w'.heap,g',N',T'⟩ v y))
  (r7:∀f k b,look f T'=some k→g'.τ f=some b→(dt≠some f∧(B<w.heap.size→g.ow B≠.tok f))∨(g'.ow b=.tok f∧(E.w0.heap.size≤b∨E.own b)∧b<w'.heap.size))
  (zP:∀i o,S'.ay[i]?=some o→(S.ay[i]?=some o∧(B<w.heap.size→g.ow B≠.ay i∧∀j,g.ow B≠.cell (g.γ i) j))∨(g'.ow (g'.γ i)=.ay i∧Fc w'.heap g' N' (g'.γ i) o∧A8 w'.heap g' (g'.γ i) o)):R E g' S' a w' :=
 R.Ff t hR hT hN lb Fg Fh r7 fun i o h _=>zP i o h
def cU{α:Type}(f:Nat→α)(k:Nat)(v:α):Nat→α:=fun i=>if i=k then v else f i
theorem dF{α:Type}(f:Nat→α)(k:Nat)(v:α):cU f k v k=v:=by simp[cU]
theorem fN{α:Type}(f:Nat→α){k i:Nat}(v:α)(h:i≠k):cU f k v i=f i:=by simp[cU,h]
theorem Fi{ob:Obj}(hR:R E g S a w)(hw:w'.heap=w.heap.push ob)(h1:w'.os=w.os)(h2:w'.tape=w.tape)(h3:w'.output=w.output)
  (hm:∀b,b≠w.heap.size→g'.m b=g.m b) (cj:∀b,b≠w.heap.size→g'.ow b=g.ow b)
  (hκ:∀i,dk≠some i→g'.κ i=g.κ i) (fJ:∀i,dk≠some i→g'.cp i=g.cp i) (hτ:∀i,dt≠some i→g'.τ i=g.τ i) (hT:∀i,dt≠some i→look i T'=look i S.bf)
  (hγ:∀i,i<S.ay.length→g'.γ i=g.γ i) (hN:S.ay.length≤N') (hγn:∀i,S.ay.length≤i→i<N'→E.w0.heap.size≤g'.γ i) (wK:∀i,g'.ow w.heap.size=.ay i→g'.m w.heap.size=0∧i<N') :
  Touch E g S w g' T' N' w' w.heap.size dk dt where
 os:=h1
 tape:=h2
 output:=h3
 size:=by rw[hw];simp
 heap:=fun b _ hb=>by rw[hw,Sr,aA (by omega)]
 m:=hm
 ow:=cj
 κ:=hκ
 cp:=fJ
 τ:=hτ
 T:=hT
 γ:=hγ
 eD:=hN
 γnew:=hγn
 fresh:=.inl hR.same.size
 hY:=fun _ _ h _=>absurd hR.same.size (A1 h)
 lv:=fun i h=>⟨(wK i h).1,(wK i h).2,fun h=>absurd hR.same.size (A1 h)⟩
 jJ:=fun o y _ hy=>absurd (zK hy) (gO _)
 pC:=fun h=>absurd h (gO _)
theorem Fk{c:Array Value}{e:TypeId}(hw:w'.heap=w.heap.push (.cells c e (0,0))):w'.heap[w.heap.size]?=some (.cells c e (0,0)):=by
 rw[hw];simp
theorem R.newObj(hR:R E g S a w){id:Nat}(hn:S.eM id){c:Array Value}{e:TypeId}(hw:w'.heap=w.heap.push (.cells c e (0,0)))(h1:w'.os=w.os)(h2:w'.tape=w.tape)(h3:w'.output=w.output)
  {cs:List V} (eB:∀(j:Nat) (v:V),cs[j]?=some v→v.cI=true∧v.ch id=false∧∃y,c[j]?=some y∧aZ (S.cx g w) v y) (cpn:Nat:=0) (hcpn:cpn≤c.size:=by exact xu _) :
  ∃g',R E g' { S with aW:=(id,cs)::S.aW } a w'∧g'.κ id=w.heap.size∧g'.cp id=cpn:=by
 let g':Gh:={ g with m:=cU g.m w.heap.size 0,κ:=cU g.κ id w.heap.size,cp:=cU g.cp id cpn,ow:=cU g.ow w.heap.size (.obj id) }
 have t:Touch E g S w g' S.bf S.ay.length w' w.heap.size (some id) none:=Fi hR hw h1 h2 h3 (fun b hb=>fN _ _ hb) (fun b hb=>fN _ _ hb)
  (fun i hi=>fN _ _ (fun e=>hi (by rw[e]))) (fun i hi=>fN _ _ (fun e=>hi (by rw[e]))) (fun i _=>rfl) (fun i _=>rfl) (fun i _=>rfl) (bR _) (fun i a b=>absurd a (by omega))
  (fun i e=>by(have e:cU g.ow w.heap.size (.obj id) w.heap.size=.ay i:=e);rw[dF]at e;cases e)
 have lb:∀i,iM (S.cx g w) ⟨w'.heap,g',S.ay.length,S.bf⟩ i∨i=id:=fun i=>by
  by_cases hi:i=id
  ·exact .inr hi
  ·exact .inl (t.keeps hR (fun e=>hi (by cases e;rfl)) (fun e=>by cases e) (fun h=>absurd h (gO _)))
 refine⟨g',R.nB t hR rfl rfl (fun i=>(lb i).imp (fun z=>z) fun e=>by rw[e];exact hn) (fun s v hs=>.inl hs) (fun i dQ ho=>?_) (fun f k b hf hb=>.inl ⟨(fun e=>by cases e),fun h=>absurd h (gO _)⟩)
  (fun i o ho=>.inl ⟨ho,fun h=>absurd h (gO _)⟩),dF _ _ _,dF _ _ _⟩
 ·rw[dj]at ho
  by_cases hi:id=i
  ·subst hi
   rw[aP rfl]at ho;cases ho;refine .inr ⟨?_,?_,?_,c,e,?_,(by show cU g.cp _ _ _≤_;rw[dF];exact hcpn),fun j v hj=>?_⟩
   ·show cU g.ow _ _ (cU g.κ _ _ _)=_;rw[dF,dF]
   ·show _≤cU g.κ _ _ _;rw[dF];exact hR.same.size
   ·show cU g.m _ _ (cU g.κ _ _ _)=_;rw[dF,dF]
   ·show w'.heap[cU g.κ _ _ _]?=_;rw[dF];exact Fk hw
   ·obtain⟨q1,q2,y,q3,q4⟩:=eB j v hj
    exact⟨q1,y,q3,q4.mono t.le fun i=>(lb i).imp (fun z=>z) fun e=>by rw[e];exact q2⟩
  ·rw[aA hi]at ho
   exact .inl ⟨ho,fun e=>hi (by cases e;rfl),fun h=>absurd h (gO _)⟩
theorem Td{v:V}{d:Nat}(h:v.ch d=false):∀u∈v.cells,u.ch d=false:=fun u hu=>by
 cases v with
 |agg cs=>exact SW h hu
 |_=>simp[V.cells]at hu;subst hu;exact h
theorem adI{o:Oper}{t:TypeId}{i:TypeInfo}{z:Value}{id:Nat}{cells:List V}{C:br}(ho:o.op=.alloc t)(hi:P.info? t=some i)(hz:i.zero=some z)(hc:uc z.cells.toList cells=true)
  (hn:S.eM id) (hR:R E g S a w) (hd:∀d,o.dst=some d→d<E.nt) (ah:VO.run C o.dst S (.obj id cells)=some S'):cd P E o S S' a w:=by
 simp only[VO.run]at ah;cases ah;obtain⟨hl,hx⟩:=CP (X:=S.cx g w) hc;obtain⟨g',jj,hκ,_⟩:=hR.newObj (w':=w.alloc (.cells z.cells t)) hn rfl rfl rfl rfl (cs:=cells) (fun j v hj=>by
  have bB:j<z.cells.size:=by have:=eJ hj;simp at hl;omega
  obtain⟨q1,q2,q3⟩:=hx j v z.cells[j] hj (by simp[bB])
  exact⟨q1,q2 _,z.cells[j],by simp[bB],q3⟩)
 refine cd.value (x:=.pointer (some ⟨w.heap.size,0,none⟩)) (w':=w.alloc (.cells z.cells t)) (g':=g') ?_ (jj.put hd ?_)
 ·simp[execOp,ho,Instr.alloc,zeroValue,typeInfo,hi,hz,newVar,newRow]
 ·rw[←hκ];exact .bG id 0
theorem adJ{o:Oper}{t:TypeId}{id:Nat}{p:Operand}{x:bp}{C:br}(ho:o.op=.box t p)(hp:bO p x=true)
  (hn:S.eM id) (IX:∀v,S.ev x=some v→v.ch id=false) (hR:R E g S a w) (hd:∀d,o.dst=some d→d<E.nt) (ah:VO.run C o.dst S (.box id x)=some S'):cd P E o S S' a w:=by
 simp only[VO.run]at ah;split at ah
 ·rename_i v hv
  cases hc:v.cells.all V.cI with
  |false=>simp[hc]at ah
  |true =>
   simp only[hc,bC]at ah;cases ah;have wL:∀u∈v.cells,u.cI=true:=by simpa [g9] using hc
   obtain⟨hl,hx⟩:=CR (cS hR hp hv) wL;obtain⟨g',jj,hκ,_⟩:=hR.newObj (w':=w.alloc (.cells (a.eval p).cells t)) hn rfl rfl rfl rfl (cs:=v.cells) (fun j u hj=>by
    have bB:j<(a.eval p).cells.size:=by have:=eJ hj;simp at hl;omega
    exact⟨wL u (gH hj),Td (IX v hv) u (gH hj),(a.eval p).cells[j],by simp[bB],hx j u _ hj (by simp[bB])⟩)
   refine cd.value (x:=.pointer (some ⟨w.heap.size,0,none⟩)) (w':=w.alloc (.cells (a.eval p).cells t)) (g':=g') ?_ (jj.put hd ?_)
   ·simp[execOp,ho,Instr.box,newVar,newRow]
   ·rw[←hκ];exact .bG id 0
 ·cases ah
end
end Go.Vm
