/- The value machine, 5: the operations that read, write and make memory. -/
import Derived.Laws.CopyRow
import Derived.Test.YtocclbnghhaejaaGreatVm4
namespace Go.Vm
set_option linter.all false
section
variable {P:Program} {E:Entry} {g g':Gh} {S S':St} {a:Act} {w w':World} {T':List (Nat×Nat)} {N' B:Nat} {dk dt:Option Nat}
theorem tH{X:Cx}{v:V}{x:Value}(h:v.plain=true):QU X v x:=fun f n es e=>by subst e;simp[V.plain]at h
theorem Q4(hR:R E g S a w){p:V}{x:Value}(hr:aZ (S.cx g w) p x){cs:List V}{off:Nat}(hc:S.nF p=some (cs,off)) :
  ∃b o,x=.pointer (some ⟨b,o+off,none⟩)∧∀(j:Nat) (v:V),cs[j]?=some v→∃y,cellAt w.heap b (o+j)=some y∧aZ (S.cx g w) v y:=by
 unfold St.nF at hc;split at hc
 ·split at hc
  ·rename_i i f q dQ ho
   cases hc;rcases hR.aU i _ ho with⟨h0,_⟩ | ⟨_,_,_,c,e,hh,_,hj⟩
   ·subst h0;exact⟨g.κ i,0,by rw[yT hr,Nat.zero_add];rfl,fun j v hv=>by simp at hv⟩
   refine⟨g.κ i,0,by rw[yT hr,Nat.zero_add];rfl,fun j v hv=>?_⟩
   obtain⟨_,y,hy,hx⟩:=hj j v hv;exact⟨y,by rw[kZ hh,Nat.zero_add];exact hy,hx⟩
  ·cases hc
 ·split at hc
  ·rename_i i f q dQ ho
   cases hc;obtain⟨e,hi⟩:=yU hr;rcases hR.aF.obj i _ ho with h0 | ⟨_,hm,c,et,hh,hl,hj⟩
   ·cases h0;exact⟨g.γ i,0,by rw[e,Nat.zero_add];rfl,fun j v hv=>by simp at hv⟩
   refine⟨g.γ i,0,by rw[e,Nat.zero_add];rfl,fun j v hv=>?_⟩
   have bA:j<c.size:=Nat.lt_of_lt_of_le (eK hv) hl;obtain⟨_,h2,h3⟩:=hj j v c[j] hv (by simp[bA])
   refine⟨c[j],by rw[kZ hh,Nat.zero_add];simp[bA],h3.mono ?_ (fun i=>.inr (h2 i))⟩
   exact⟨Nat.le_refl _,fun _ _ _ _ h=>h,fun _ _=>Nat.le_refl _,Nat.le_refl _,fun _ _=>rfl⟩
  ·cases hc
 ·cases hc
  cases hr with
  |plain h _=>cases h
  |eR row _ b o ys hb h1 h2 hp hm=>exact⟨b,o,rfl,fun j v hj=>⟨ys j,h1 j v hj,.plain (h2 j v hj) (tH (hp j v hj))⟩⟩
 ·cases hc
def kI(P:Program)(t:TypeId):Option Bool :=
 match P.underlying t with
 |some (.struct _)|some (.array _ _)=>some true
 |some _=>some false
 |none=>none
def eO(P:Program)(t:TypeId):Option Nat:=(P.info? t).map (·.size)
def qt(P:Program)(t:TypeId)(sz:Option Nat):Bool :=
 match sz with
 |none=>kI P t==some false&&eO P t==some 1
 |some n=>kI P t==some true&&eO P t==some n
theorem AF{t:TypeId}{b:Bool}(h:kI P t=some b):(isAgg t).run P w=.ok b w:=by
 unfold kI at h;unfold isAgg;split at h
 ·rename_i hu;cases h;simp[iV hu]
 ·rename_i hu;cases h;simp[iV hu]
 ·rename_i d h1 h2 hu
  cases h;simp only[Sem.run_bind,iV hu,Result.andThen_ok];cases d<;>first|rfl|exact absurd rfl (h1 _)|exact absurd rfl (h2 _ _)
 ·cases h
theorem Hs{t:TypeId}{sz:Option Nat}(hs:qt P t sz=true){cs:List V}{off b o:Nat}{v:V}{X:Cx}
  (hc:∀(j:Nat) (v:V),cs[j]?=some v→∃y,cellAt w.heap b (o+j)=some y∧aZ X v y) (hv:loadAt sz cs off=some v) :
  ∃x,(loadVar t ⟨b,o+off,none⟩).run P w=.ok x w∧aZ X v x:=by
 unfold loadAt at hv;unfold qt at hs;cases sz with
 |none =>
  simp only[Bool.and_eq_true,beq_iff_eq]at hs;obtain⟨y,hy,hr⟩:=hc off v hv;refine⟨y,?_,hr⟩;simp[loadVar,AF hs.1,cell?_eq,hy]
 |some n =>
  simp only[Bool.and_eq_true,beq_iff_eq]at hs;simp only at hv;cases hle:Nat.ble (off+n) cs.length with
  |false=>simp[hle]at hv
  |true =>
   simp only[hle,cond_true,Option.some.injEq]at hv;have hle:=Nat.le_of_ble_eq_true hle;subst hv;have hf:∀j,j<n→w.cell? ((⟨b,o+off,none⟩:Addr).add j)=some ((cellAt w.heap b (o+off+j)).getD undef):=fun j hj=>by
    obtain⟨y,hy,_⟩:=hc (off+j) cs[off+j] (List.getElem?_eq_getElem (by omega))
    rw[kG,cell?_eq,show o+off+j=o+(off+j) from by omega,hy]
    rfl
   refine⟨.agg ((List.range n).map fun j=>(cellAt w.heap b (o+off+j)).getD undef).toArray,?_,.agg _ _ ?_ fun j u y hu hy=>?_⟩
   ·simp[loadVar,AF hs.1,nH hs.2,run_loadCells w _ n _ hf]
   ·simp;omega
   ·simp only[List.getElem?_take,List.getElem?_drop]at hu
    split at hu
    ·rename_i hj
     obtain⟨z,hz,hr⟩:=hc (off+j) u hu;simp[hj]at hy;rw[show o+off+j=o+(off+j) from by omega,hz]at hy
     simp at hy;exact hy ▸ hr
    ·cases hu
theorem acB{o:Oper}{t:TypeId}{root:jx}{sz:Option Nat}{p:Operand}{x:bq}{C:bw}(ho:o.op=.load t p)(hs:qt P t sz=true)(hp:bO p x=true)
  (hR:R E g S a w) (hd:∀d,o.dst=some d→d<E.nt) (ah:VO.run C o.dst S (.load root sz x)=some S'):cb P E o S S' a w:=by
 simp only[VO.run]at ah;split at ah
 ·rename_i u hu
  cases fQ:root.fits u with
  |false=>simp[fQ]at ah
  |true =>
   simp only[fQ,cond_true]at ah;split at ah
   ·rename_i cs off hc
    split at ah
    ·rename_i v hv
     cases ah;obtain⟨b,f,e,ei⟩:=Q4 hR (cQ hR hp hu) hc;obtain⟨z,hz,hr⟩:=Hs (w:=w) hs ei hv;refine cb.put hR hd (x:=z) ?_ (aca hr);simp[execOp,ho,Instr.loadAt,e,Instr.sureAddr,hz]
    ·cases ah
   ·cases ah
 ·cases ah
theorem Q5{t:TypeId}{sz:Option Nat}(hs:qt P t sz=true){cs:List V}{xs:Array Value}{off:Nat}{v:V}{X:Cx}(hl:cs.length=xs.size)
  (hc:∀(j:Nat) (v:V) (y:Value),cs[j]?=some v→xs[j]?=some y→aZ X v y) (hv:loadAt sz cs off=some v) :
  ∃x,(part t xs off).run P w=.ok x w∧aZ X v x:=by
 unfold loadAt at hv;unfold qt at hs;cases sz with
 |none =>
  simp only[Bool.and_eq_true,beq_iff_eq]at hs;have bA:off<xs.size:=by rw[←hl];exact eK hv
  refine⟨xs[off],?_,hc off v xs[off] hv (by simp[bA])⟩
  simp[part,AF hs.1,bA]
 |some n =>
  simp only[Bool.and_eq_true,beq_iff_eq]at hs;simp only at hv;cases hle:Nat.ble (off+n) cs.length with
  |false=>simp[hle]at hv
  |true =>
   simp only[hle,cond_true,Option.some.injEq]at hv;have hle:=Nat.le_of_ble_eq_true hle;subst hv;refine⟨.agg (xs.extract off (off+n)),?_,.agg _ _ ?_ fun j u y hu hy=>?_⟩
   ·simp[part,AF hs.1,nH hs.2]
   ·simp;omega
   ·simp only[List.getElem?_take,List.getElem?_drop]at hu
    split at hu
    ·rename_i hj
     refine hc (off+j) u y hu ?_;rw[Array.getElem?_extract]at hy;split at hy
     ·exact hy
     ·cases hy
    ·cases hu
theorem acC{o:Oper}{t:TypeId}{fs:Array Field}{f:Field}{fi off:Nat}{sz:Option Nat}{p:Operand}{x:bq}{C:bw}(ho:o.op=.field t p fi)(ht:P.underlying t=some (.struct fs))
  (hf:fs[fi]?=some f) (iW:f.offset=off) (hs:qt P f.type sz=true) (hp:bO p x=true)
  (hR:R E g S a w) (hd:∀d,o.dst=some d→d<E.nt) (ah:VO.run C o.dst S (.field off sz x)=some S'):cb P E o S S' a w:=by
 simp only[VO.run]at ah;split at ah
 ·rename_i cs hu
  split at ah
  ·rename_i v hv
   cases ah;obtain⟨xs,e,hl,hx⟩:=pP (cQ hR hp hu);obtain⟨z,hz,hr⟩:=Q5 (w:=w) hs hl hx hv;refine cb.put hR hd (x:=z) ?_ hr;simp[execOp,ho,Instr.field,iV ht,hf,e,asAgg,iW,hz]
  ·cases ah
 ·cases ah
theorem acD{o:Oper}{t el:TypeId}{len n:Nat}{ag:Bool}{p q:Operand}{x i:bq}{C:bw}(ho:o.op=.index t p q)(ht:P.underlying t=some (.array len el))
  (hs:qt P el (bif ag then some n else none)=true) (hn:eO P el=some n) (hp:bO p x=true) (hq:bO q i=true)
  (hR:R E g S a w) (hd:∀d,o.dst=some d→d<E.nt) (ah:VO.run C o.dst S (.idx len n ag x i)=some S'):cb P E o S S' a w:=by
 simp only[VO.run]at ah;split at ah
 ·rename_i cs k m hu hm
  have e2:=lY (cQ hR hq hm);cases hc:(decide (0≤m)&&decide (m<(len:Int))) with
  |false=>simp[hc]at ah
  |true =>
   simp only[hc,cond_true]at ah;simp only[Bool.and_eq_true,decide_eq_true_eq]at hc;split at ah
   ·rename_i v hv
    cases ah;obtain⟨xs,e,hl,hx⟩:=pP (cQ hR hp hu);obtain⟨z,hz,hr⟩:=Q5 (w:=w) hs hl hx hv;refine cb.put hR hd (x:=z) ?_ hr;simp[execOp,ho,Instr.index,asIntOf,e2,iV ht,e,nH hn,hc,hz]
   ·cases ah
 ·cases ah
theorem R.Eh(t:Touch E g S w g' T' N' w' B dk dt)(hR:R E g S a w)(hT:S'.bg=T')(hN:S'.aF.length=N')
  (lg:∀i,iU (S.cx g w) ⟨w'.heap,g',N',T'⟩ i∨S.eG i)
  (Ei:∀s v,look s S'.env=some v→look s S.env=some v∨∃x,a.tmps[s]?=some x∧aZ ⟨w'.heap,g',N',T'⟩ v x)
  (Ej:∀id cs,look id S'.aU=some cs→(look id S.aU=some cs∧dk≠some id∧(B<w.heap.size→g.ow B≠.obj id)) ∨
   (g'.ow (g'.κ id)=.obj id∧E.w0.heap.size≤g'.κ id∧g'.m (g'.κ id)=0 ∧
    ∃c e,w'.heap[g'.κ id]?=some (.cells c e (0,0))∧g'.cp id≤c.size∧∀(j:Nat) (v:V),cs[j]?=some v→v.cI=true∧∃y,c[j]?=some y∧aZ ⟨w'.heap,g',N',T'⟩ v y))
  (ry:∀f k b,look f T'=some k→g'.τ f=some b→(dt≠some f∧(B<w.heap.size→g.ow B≠.tok f))∨(g'.ow b=.tok f∧(E.w0.heap.size≤b∨E.own b)∧b<w'.heap.size))
  (yW:∀i o,S'.aF[i]?=some o→o≠.cells []→(S.aF[i]?=some o∧(B<w.heap.size→g.ow B≠.aF i∧∀j,g.ow B≠.cell (g.γ i) j))∨(g'.ow (g'.γ i)=.aF i∧Ef w'.heap g' N' (g'.γ i) o∧AA w'.heap g' (g'.γ i) o)):R E g' S' a w':=by
 have lZ:S'.cx g' w'=⟨w'.heap,g',N',T'⟩:=by simp[St.cx,hT,hN]
 refine⟨fun s v hs=>?_,fun id cs ho=>?_,fun f k b hf hb=>?_,⟨fun i o ho=>?_,fun i o ho=>?_,fun b i ho=>?_⟩,hR.defers,hR.jh,by rw[hN];exact t.same hR⟩
 ·rw[lZ]
  rcases Ei s v hs with h|h
  ·exact t.env hR (fun i=>(lg i).imp (fun z=>z) fun h=>h.env) s v h
  ·exact h
 ·rw[lZ]
  rcases Ej id cs ho with⟨h1,h2,h3⟩ | h
  ·exact t.obj hR h1 h2 h3 (fun i=>(lg i).imp (fun z=>z) fun h v hv=>sI (h.aU id cs h1 v hv))
  ·exact .inr h
 ·rw[hT]at hf
  rcases ry f k b hf hb with⟨h1,h2⟩ | h
  ·exact t.tok hR hf hb h1 h2
  ·exact h
 ·rw[hN]
  by_cases h0:o=.cells []
  ·exact .inl h0
  rcases yW i o ho h0 with⟨h1,h2⟩ | h
  ·exact t.ab6 hR h1 fun hb=>(h2 hb).1
  ·exact .inr ⟨h.1,h.2.1⟩
 ·by_cases h0:o=.cells []
  ·subst h0;exact fun j n es y hj=>by simp at hj
  rcases yW i o ho h0 with⟨h1,h2⟩ | h
  ·exact t.owns hR h1 h2
  ·exact h.2.2
 ·rw[hN]
  by_cases cg:b=B
  ·subst cg;exact⟨(t.lv i ho).1,(t.lv i ho).2.1⟩
  ·rw[t.ow b cg]at ho
   obtain⟨h1,h2⟩:=hR.aF.z b i ho;exact⟨(t.m b cg).trans h1,Nat.lt_of_lt_of_le h2 t.eN⟩
theorem R.nK(t:Touch E g S w g' T' N' w' B dk dt)(hR:R E g S a w)(hT:S'.bg=T')(hN:S'.aF.length=N')
  (lg:∀i,iU (S.cx g w) ⟨w'.heap,g',N',T'⟩ i∨S.eG i)
  (Ei:∀s v,look s S'.env=some v→look s S.env=some v∨∃x,a.tmps[s]?=some x∧aZ ⟨w'.heap,g',N',T'⟩ v x)
  (Ej:∀id cs,look id S'.aU=some cs→(look id S.aU=some cs∧dk≠some id∧(B<w.heap.size→g.ow B≠.obj id)) ∨
   (g'.ow (g'.κ id)=.obj id∧E.w0.heap.size≤g'.κ id∧g'.m (g'.κ id)=0 ∧
    ∃c e,w'.heap[g'.κ id]?=some (.cells c e (0,0))∧g'.cp id≤c.size∧∀(j:Nat) (v:V),cs[j]?=some v→v.cI=true∧∃y,c[j]?=some y∧aZ ⟨w'.heap,g',N',T'⟩ v y))
  (ry:∀f k b,look f T'=some k→g'.τ f=some b→(dt≠some f∧(B<w.heap.size→g.ow B≠.tok f))∨(g'.ow b=.tok f∧(E.w0.heap.size≤b∨E.own b)∧b<w'.heap.size))
  (yW:∀i o,S'.aF[i]?=some o→(S.aF[i]?=some o∧(B<w.heap.size→g.ow B≠.aF i∧∀j,g.ow B≠.cell (g.γ i) j))∨(g'.ow (g'.γ i)=.aF i∧Ef w'.heap g' N' (g'.γ i) o∧AA w'.heap g' (g'.γ i) o)):R E g' S' a w' :=
 R.Eh t hR hT hN lg Ei Ej ry fun i o h _=>yW i o h
def cS{α:Type}(f:Nat→α)(k:Nat)(v:α):Nat→α:=fun i=>if i=k then v else f i
theorem dG{α:Type}(f:Nat→α)(k:Nat)(v:α):cS f k v k=v:=by simp[cS]
theorem fR{α:Type}(f:Nat→α){k i:Nat}(v:α)(h:i≠k):cS f k v i=f i:=by simp[cS,h]
theorem Ek{ob:Obj}(hR:R E g S a w)(hw:w'.heap=w.heap.push ob)(h1:w'.os=w.os)(h2:w'.tape=w.tape)(h3:w'.output=w.output)
  (hm:∀b,b≠w.heap.size→g'.m b=g.m b) (cA:∀b,b≠w.heap.size→g'.ow b=g.ow b)
  (hκ:∀i,dk≠some i→g'.κ i=g.κ i) (fC:∀i,dk≠some i→g'.cp i=g.cp i) (hτ:∀i,dt≠some i→g'.τ i=g.τ i) (hT:∀i,dt≠some i→look i T'=look i S.bg)
  (hγ:∀i,i<S.aF.length→g'.γ i=g.γ i) (hN:S.aF.length≤N') (hγn:∀i,S.aF.length≤i→i<N'→E.w0.heap.size≤g'.γ i) (vQ:∀i,g'.ow w.heap.size=.aF i→g'.m w.heap.size=0∧i<N') :
  Touch E g S w g' T' N' w' w.heap.size dk dt where
 os:=h1
 tape:=h2
 output:=h3
 size:=by rw[hw];simp
 heap:=fun b _ hb=>by rw[hw,Array.getElem?_push,if_neg (by omega)]
 m:=hm
 ow:=cA
 κ:=hκ
 cp:=fC
 τ:=hτ
 T:=hT
 γ:=hγ
 eN:=hN
 γnew:=hγn
 fresh:=.inl hR.same.size
 ib:=fun _ _ h _=>absurd hR.same.size (Nat.not_le_of_lt h)
 lv:=fun i h=>⟨(vQ i h).1,(vQ i h).2,fun h=>absurd hR.same.size (Nat.not_le_of_lt h)⟩
 jK:=fun o y _ hy=>absurd (Cb hy) (Nat.lt_irrefl _)
 oV:=fun h=>absurd h (Nat.lt_irrefl _)
theorem Em{c:Array Value}{e:TypeId}(hw:w'.heap=w.heap.push (.cells c e (0,0))):w'.heap[w.heap.size]?=some (.cells c e (0,0)):=by
 rw[hw];simp
theorem R.newObj(hR:R E g S a w){id:Nat}(hn:S.eG id){c:Array Value}{e:TypeId}(hw:w'.heap=w.heap.push (.cells c e (0,0)))(h1:w'.os=w.os)(h2:w'.tape=w.tape)(h3:w'.output=w.output)
  {cs:List V} (ei:∀(j:Nat) (v:V),cs[j]?=some v→v.cI=true∧v.cj id=false∧∃y,c[j]?=some y∧aZ (S.cx g w) v y) (cpn:Nat:=0) (hcpn:cpn≤c.size:=by exact Nat.zero_le _) :
  ∃g',R E g' { S with aU:=(id,cs)::S.aU } a w'∧g'.κ id=w.heap.size∧g'.cp id=cpn:=by
 let g':Gh:={ g with m:=cS g.m w.heap.size 0,κ:=cS g.κ id w.heap.size,cp:=cS g.cp id cpn,ow:=cS g.ow w.heap.size (.obj id) }
 have t:Touch E g S w g' S.bg S.aF.length w' w.heap.size (some id) none:=Ek hR hw h1 h2 h3 (fun b hb=>fR _ _ hb) (fun b hb=>fR _ _ hb)
  (fun i hi=>fR _ _ (fun e=>hi (by rw[e]))) (fun i hi=>fR _ _ (fun e=>hi (by rw[e]))) (fun i _=>rfl) (fun i _=>rfl) (fun i _=>rfl) (Nat.le_refl _) (fun i a b=>absurd a (by omega))
  (fun i e=>by(have e:cS g.ow w.heap.size (.obj id) w.heap.size=.aF i:=e);rw[dG]at e;cases e)
 have lg:∀i,iU (S.cx g w) ⟨w'.heap,g',S.aF.length,S.bg⟩ i∨i=id:=fun i=>by
  by_cases hi:i=id
  ·exact .inr hi
  ·exact .inl (t.keeps hR (fun e=>hi (by cases e;rfl)) (fun e=>by cases e) (fun h=>absurd h (Nat.lt_irrefl _)))
 refine⟨g',R.nK t hR rfl rfl (fun i=>(lg i).imp (fun z=>z) fun e=>by rw[e];exact hn) (fun s v hs=>.inl hs) (fun i dQ ho=>?_) (fun f k b hf hb=>.inl ⟨(fun e=>by cases e),fun h=>absurd h (Nat.lt_irrefl _)⟩)
  (fun i o ho=>.inl ⟨ho,fun h=>absurd h (Nat.lt_irrefl _)⟩),dG _ _ _,dG _ _ _⟩
 ·rw[dA]at ho
  by_cases hi:id=i
  ·subst hi
   rw[if_pos rfl]at ho;cases ho;refine .inr ⟨?_,?_,?_,c,e,?_,(by show cS g.cp _ _ _≤_;rw[dG];exact hcpn),fun j v hj=>?_⟩
   ·show cS g.ow _ _ (cS g.κ _ _ _)=_;rw[dG,dG]
   ·show _≤cS g.κ _ _ _;rw[dG];exact hR.same.size
   ·show cS g.m _ _ (cS g.κ _ _ _)=_;rw[dG,dG]
   ·show w'.heap[cS g.κ _ _ _]?=_;rw[dG];exact Em hw
   ·obtain⟨q1,q2,y,q3,q4⟩:=ei j v hj
    exact⟨q1,y,q3,q4.mono t.le fun i=>(lg i).imp (fun z=>z) fun e=>by rw[e];exact q2⟩
  ·rw[if_neg hi]at ho
   exact .inl ⟨ho,fun e=>hi (by cases e;rfl),fun h=>absurd h (Nat.lt_irrefl _)⟩
theorem Q6{v:V}{d:Nat}(h:v.cj d=false):∀u∈v.cells,u.cj d=false:=fun u hu=>by
 cases v with
 |agg cs=>exact QV h hu
 |_=>simp[V.cells]at hu;subst hu;exact h
theorem acE{o:Oper}{t:TypeId}{i:TypeInfo}{z:Value}{id:Nat}{cells:List V}{C:bw}(ho:o.op=.alloc t)(hi:P.info? t=some i)(hz:i.zero=some z)(hc:tF z.cells.toList cells=true)
  (hn:S.eG id) (hR:R E g S a w) (hd:∀d,o.dst=some d→d<E.nt) (ah:VO.run C o.dst S (.obj id cells)=some S'):cb P E o S S' a w:=by
 simp only[VO.run]at ah;cases ah;obtain⟨hl,hx⟩:=Ce (X:=S.cx g w) hc;obtain⟨g',jj,hκ,_⟩:=hR.newObj (w':=w.alloc (.cells z.cells t)) hn rfl rfl rfl rfl (cs:=cells) (fun j v hj=>by
  have bA:j<z.cells.size:=by have:=eK hj;simp at hl;omega
  obtain⟨q1,q2,q3⟩:=hx j v z.cells[j] hj (by simp[bA])
  exact⟨q1,q2 _,z.cells[j],by simp[bA],q3⟩)
 refine cb.value (x:=.pointer (some ⟨w.heap.size,0,none⟩)) (w':=w.alloc (.cells z.cells t)) (g':=g') ?_ (jj.put hd ?_)
 ·simp[execOp,ho,Instr.alloc,zeroValue,typeInfo,hi,hz,newVar,newRow]
 ·rw[←hκ];exact .bf id 0
theorem acF{o:Oper}{t:TypeId}{id:Nat}{p:Operand}{x:bq}{C:bw}(ho:o.op=.box t p)(hp:bO p x=true)
  (hn:S.eG id) (Ht:∀v,S.ev x=some v→v.cj id=false) (hR:R E g S a w) (hd:∀d,o.dst=some d→d<E.nt) (ah:VO.run C o.dst S (.box id x)=some S'):cb P E o S S' a w:=by
 simp only[VO.run]at ah;split at ah
 ·rename_i v hv
  cases hc:v.cells.all V.cI with
  |false=>simp[hc]at ah
  |true =>
   simp only[hc,cond_true]at ah;cases ah;have vT:∀u∈v.cells,u.cI=true:=by simpa [List.all_eq_true] using hc
   obtain⟨hl,hx⟩:=Cf (cQ hR hp hv) vT;obtain⟨g',jj,hκ,_⟩:=hR.newObj (w':=w.alloc (.cells (a.eval p).cells t)) hn rfl rfl rfl rfl (cs:=v.cells) (fun j u hj=>by
    have bA:j<(a.eval p).cells.size:=by have:=eK hj;simp at hl;omega
    exact⟨vT u (List.mem_of_getElem? hj),Q6 (Ht v hv) u (List.mem_of_getElem? hj),(a.eval p).cells[j],by simp[bA],hx j u _ hj (by simp[bA])⟩)
   refine cb.value (x:=.pointer (some ⟨w.heap.size,0,none⟩)) (w':=w.alloc (.cells (a.eval p).cells t)) (g':=g') ?_ (jj.put hd ?_)
   ·simp[execOp,ho,Instr.box,newVar,newRow]
   ·rw[←hκ];exact .bf id 0
 ·cases ah
end
end Go.Vm
