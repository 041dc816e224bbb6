/- The value machine, 5: the operations that read, write and make memory. -/
import Derived.Laws.CopyRow
import Derived.Test.YtmpikpodpgnjhaaGreatVm4
namespace Go.Vm
set_option linter.all false
section
variable {P:Program} {E:Entry} {g g':Gh} {S S':St} {a:Act} {w w':World} {T':List (Nat×Nat)} {N' B:Nat} {dk dt:Option Nat}
theorem rY{X:Cx}{v:V}{x:Value}(h:v.plain=true):NS X v x:=fun f n es e=>by subst e;simp[V.plain]at h
theorem N5(hR:R E g S a w){p:V}{x:Value}(hr:bj (S.cx g w) p x){cs:List V}{off:Nat}(hc:S.na p=some (cs,off)) :
  ∃b o,x=.pointer (some ⟨b,o+off,none⟩)∧∀(j:Nat) (v:V),cs[j]?=some v→∃y,cellAt w.heap b (o+j)=some y∧bj (S.cx g w) v y:=by
 unfold St.na at hc;split at hc
 ·split at hc
  ·rename_i i f q ek ho
   cases hc;rcases hR.bb i _ ho with⟨h0,_⟩ | ⟨_,_,_,c,e,hh,_,hj⟩
   ·subst h0;exact⟨g.κ i,0,by rw[wG hr,Nat.zero_add];rfl,fun j v hv=>by simp at hv⟩
   refine⟨g.κ i,0,by rw[wG hr,Nat.zero_add];rfl,fun j v hv=>?_⟩
   obtain⟨_,y,hy,hx⟩:=hj j v hv;exact⟨y,by rw[lg hh,Nat.zero_add];exact hy,hx⟩
  ·cases hc
 ·split at hc
  ·rename_i i f q ek ho
   cases hc;obtain⟨e,hi⟩:=wH hr;rcases hR.az.obj i _ ho with h0 | ⟨_,hm,c,et,hh,hl,hj⟩
   ·cases h0;exact⟨g.γ i,0,by rw[e,Nat.zero_add];rfl,fun j v hv=>by simp at hv⟩
   refine⟨g.γ i,0,by rw[e,Nat.zero_add];rfl,fun j v hv=>?_⟩
   have bG:j<c.size:=Nat.lt_of_lt_of_le (eZ hv) hl;obtain⟨_,h2,h3⟩:=hj j v c[j] hv (by simp[bG])
   refine⟨c[j],by rw[lg hh,Nat.zero_add];simp[bG],h3.mono ?_ (fun i=>.inr (h2 i))⟩
   exact⟨Nat.le_refl _,fun _ _ _ _ h=>h,fun _ _=>Nat.le_refl _,Nat.le_refl _,fun _ _=>rfl⟩
  ·cases hc
 ·cases hc
  cases hr with
  |plain h _=>cases h
  |fa row _ b o ys hb h1 h2 hp hm=>exact⟨b,o,rfl,fun j v hj=>⟨ys j,h1 j v hj,.plain (h2 j v hj) (rY (hp j v hj))⟩⟩
 ·cases hc
def kl(P:Program)(t:TypeId):Option Bool :=
 match P.underlying t with
 |some (.struct _)|some (.array _ _)=>some true
 |some _=>some false
 |none=>none
def fh(P:Program)(t:TypeId):Option Nat:=(P.info? t).map (·.size)
def pL(P:Program)(t:TypeId)(sz:Option Nat):Bool :=
 match sz with
 |none=>kl P t==some false&&fh P t==some 1
 |some n=>kl P t==some true&&fh P t==some n
theorem xQ{t:TypeId}{b:Bool}(h:kl P t=some b):(isAgg t).run P w=.ok b w:=by
 unfold kl at h;unfold isAgg;split at h
 ·rename_i hu;cases h;simp[ja hu]
 ·rename_i hu;cases h;simp[ja hu]
 ·rename_i d h1 h2 hu
  cases h;simp only[Sem.run_bind,ja hu,Result.andThen_ok];cases d<;>first|rfl|exact absurd rfl (h1 _)|exact absurd rfl (h2 _ _)
 ·cases h
theorem EN{t:TypeId}{sz:Option Nat}(hs:pL P t sz=true){cs:List V}{off b o:Nat}{v:V}{X:Cx}
  (hc:∀(j:Nat) (v:V),cs[j]?=some v→∃y,cellAt w.heap b (o+j)=some y∧bj X v y) (hv:loadAt sz cs off=some v) :
  ∃x,(loadVar t ⟨b,o+off,none⟩).run P w=.ok x w∧bj X v x:=by
 unfold loadAt at hv;unfold pL at hs;cases sz with
 |none =>
  simp only[Bool.and_eq_true,beq_iff_eq]at hs;obtain⟨y,hy,hr⟩:=hc off v hv;refine⟨y,?_,hr⟩;simp[loadVar,xQ hs.1,cell?_eq,hy]
 |some n =>
  simp only[Bool.and_eq_true,beq_iff_eq]at hs;simp only at hv;cases hle:Nat.ble (off+n) cs.length with
  |false=>simp[hle]at hv
  |true =>
   simp only[hle,cond_true,Option.some.injEq]at hv;have hle:=Nat.le_of_ble_eq_true hle;subst hv;have hf:∀j,j<n→w.cell? ((⟨b,o+off,none⟩:Addr).add j)=some ((cellAt w.heap b (o+off+j)).getD undef):=fun j hj=>by
    obtain⟨y,hy,_⟩:=hc (off+j) cs[off+j] (List.getElem?_eq_getElem (by omega))
    rw[kI,cell?_eq,show o+off+j=o+(off+j) from by omega,hy]
    rfl
   refine⟨.agg ((List.range n).map fun j=>(cellAt w.heap b (o+off+j)).getD undef).toArray,?_,.agg _ _ ?_ fun j u y hu hy=>?_⟩
   ·simp[loadVar,xQ hs.1,nW hs.2,run_loadCells w _ n _ hf]
   ·simp;omega
   ·simp only[List.getElem?_take,List.getElem?_drop]at hu
    split at hu
    ·rename_i hj
     obtain⟨z,hz,hr⟩:=hc (off+j) u hu;simp[hj]at hy;rw[show o+off+j=o+(off+j) from by omega,hz]at hy
     simp at hy;exact hy ▸ hr
    ·cases hu
theorem WN{o:Oper}{t:TypeId}{root:jx}{sz:Option Nat}{p:Operand}{x:bB}{C:bC}(ho:o.op=.load t p)(hs:pL P t sz=true)(hp:bX p x=true)
  (hR:R E g S a w) (hd:∀d,o.dst=some d→d<E.nt) (aj:VO.run C o.dst S (.load root sz x)=some S'):ct P E o S S' a w:=by
 simp only[VO.run]at aj;split at aj
 ·rename_i u hu
  cases fX:root.fits u with
  |false=>simp[fX]at aj
  |true =>
   simp only[fX,cond_true]at aj;split at aj
   ·rename_i cs off hc
    split at aj
    ·rename_i v hv
     cases aj;obtain⟨b,f,e,fx⟩:=N5 hR (cZ hR hp hu) hc;obtain⟨z,hz,hr⟩:=EN (w:=w) hs fx hv;refine ct.put hR hd (x:=z) ?_ (Wo hr);simp[execOp,ho,Instr.loadAt,e,Instr.sureAddr,hz]
    ·cases aj
   ·cases aj
 ·cases aj
theorem N6{t:TypeId}{sz:Option Nat}(hs:pL P t sz=true){cs:List V}{xs:Array Value}{off:Nat}{v:V}{X:Cx}(hl:cs.length=xs.size)
  (hc:∀(j:Nat) (v:V) (y:Value),cs[j]?=some v→xs[j]?=some y→bj X v y) (hv:loadAt sz cs off=some v) :
  ∃x,(part t xs off).run P w=.ok x w∧bj X v x:=by
 unfold loadAt at hv;unfold pL at hs;cases sz with
 |none =>
  simp only[Bool.and_eq_true,beq_iff_eq]at hs;have bG:off<xs.size:=by rw[←hl];exact eZ hv
  refine⟨xs[off],?_,hc off v xs[off] hv (by simp[bG])⟩
  simp[part,xQ hs.1,bG]
 |some n =>
  simp only[Bool.and_eq_true,beq_iff_eq]at hs;simp only at hv;cases hle:Nat.ble (off+n) cs.length with
  |false=>simp[hle]at hv
  |true =>
   simp only[hle,cond_true,Option.some.injEq]at hv;have hle:=Nat.le_of_ble_eq_true hle;subst hv;refine⟨.agg (xs.extract off (off+n)),?_,.agg _ _ ?_ fun j u y hu hy=>?_⟩
   ·simp[part,xQ hs.1,nW hs.2]
   ·simp;omega
   ·simp only[List.getElem?_take,List.getElem?_drop]at hu
    split at hu
    ·rename_i hj
     refine hc (off+j) u y hu ?_;rw[Array.getElem?_extract]at hy;split at hy
     ·exact hy
     ·cases hy
    ·cases hu
theorem WO{o:Oper}{t:TypeId}{fs:Array Field}{f:Field}{fi off:Nat}{sz:Option Nat}{p:Operand}{x:bB}{C:bC}(ho:o.op=.field t p fi)(ht:P.underlying t=some (.struct fs))
  (hf:fs[fi]?=some f) (nb:f.offset=off) (hs:pL P f.type sz=true) (hp:bX p x=true)
  (hR:R E g S a w) (hd:∀d,o.dst=some d→d<E.nt) (aj:VO.run C o.dst S (.field off sz x)=some S'):ct P E o S S' a w:=by
 simp only[VO.run]at aj;split at aj
 ·rename_i cs hu
  split at aj
  ·rename_i v hv
   cases aj;obtain⟨xs,e,hl,hx⟩:=pj (cZ hR hp hu);obtain⟨z,hz,hr⟩:=N6 (w:=w) hs hl hx hv;refine ct.put hR hd (x:=z) ?_ hr;simp[execOp,ho,Instr.field,ja ht,hf,e,asAgg,nb,hz]
  ·cases aj
 ·cases aj
theorem WQ{o:Oper}{t el:TypeId}{len n:Nat}{ag:Bool}{p q:Operand}{x i:bB}{C:bC}(ho:o.op=.index t p q)(ht:P.underlying t=some (.array len el))
  (hs:pL P el (bif ag then some n else none)=true) (hn:fh P el=some n) (hp:bX p x=true) (hq:bX q i=true)
  (hR:R E g S a w) (hd:∀d,o.dst=some d→d<E.nt) (aj:VO.run C o.dst S (.idx len n ag x i)=some S'):ct P E o S S' a w:=by
 simp only[VO.run]at aj;split at aj
 ·rename_i cs k m hu hm
  have e2:=lA (cZ hR hq hm);cases hc:(decide (0≤m)&&decide (m<(len:Int))) with
  |false=>simp[hc]at aj
  |true =>
   simp only[hc,cond_true]at aj;simp only[Bool.and_eq_true,decide_eq_true_eq]at hc;split at aj
   ·rename_i v hv
    cases aj;obtain⟨xs,e,hl,hx⟩:=pj (cZ hR hp hu);obtain⟨z,hz,hr⟩:=N6 (w:=w) hs hl hx hv;refine ct.put hR hd (x:=z) ?_ hr;simp[execOp,ho,Instr.index,asIntOf,e2,ja ht,e,nW hn,hc,hz]
   ·cases aj
 ·cases aj
theorem R.B1(t:Touch E g S w g' T' N' w' B dk dt)(hR:R E g S a w)(hT:S'.bm=T')(hN:S'.az.length=N')
  (kJ:∀i,iP (S.cx g w) ⟨w'.heap,g',N',T'⟩ i∨S.eR i)
  (B2:∀s v,look s S'.env=some v→look s S.env=some v∨∃x,a.tmps[s]?=some x∧bj ⟨w'.heap,g',N',T'⟩ v x)
  (B3:∀id cs,look id S'.bb=some cs→(look id S.bb=some cs∧dk≠some id∧(B<w.heap.size→g.ow B≠.obj id)) ∨
   (g'.ow (g'.κ id)=.obj id∧E.w0.heap.size≤g'.κ id∧g'.m (g'.κ id)=0 ∧
    ∃c e,w'.heap[g'.κ id]?=some (.cells c e (0,0))∧g'.cp id≤c.size∧∀(j:Nat) (v:V),cs[j]?=some v→v.cM=true∧∃y,c[j]?=some y∧bj ⟨w'.heap,g',N',T'⟩ v y))
  (tC:∀f k b,look f T'=some k→g'.τ f=some b→(dt≠some f∧(B<w.heap.size→g.ow B≠.tok f))∨(g'.ow b=.tok f∧(E.w0.heap.size≤b∨E.own b)∧b<w'.heap.size))
  (wJ:∀i o,S'.az[i]?=some o→o≠.cells []→(S.az[i]?=some o∧(B<w.heap.size→g.ow B≠.az i∧∀j,g.ow B≠.cell (g.γ i) j))∨(g'.ow (g'.γ i)=.az i∧BZ w'.heap g' N' (g'.γ i) o∧xK w'.heap g' (g'.γ i) o)):R E g' S' a w':=by
 have lU:S'.cx g' w'=⟨w'.heap,g',N',T'⟩:=by simp[St.cx,hT,hN]
 refine⟨fun s v hs=>?_,fun id cs ho=>?_,fun f k b hf hb=>?_,⟨fun i o ho=>?_,fun i o ho=>?_,fun b i ho=>?_⟩,hR.defers,hR.jy,by rw[hN];exact t.same hR⟩
 ·rw[lU]
  rcases B2 s v hs with h|h
  ·exact t.env hR (fun i=>(kJ i).imp (fun z=>z) fun h=>h.env) s v h
  ·exact h
 ·rw[lU]
  rcases B3 id cs ho with⟨h1,h2,h3⟩ | h
  ·exact t.obj hR h1 h2 h3 (fun i=>(kJ i).imp (fun z=>z) fun h v hv=>rf (h.bb id cs h1 v hv))
  ·exact .inr h
 ·rw[hT]at hf
  rcases tC f k b hf hb with⟨h1,h2⟩ | h
  ·exact t.tok hR hf hb h1 h2
  ·exact h
 ·rw[hN]
  by_cases h0:o=.cells []
  ·exact .inl h0
  rcases wJ i o ho h0 with⟨h1,h2⟩ | h
  ·exact t.Wk hR h1 fun hb=>(h2 hb).1
  ·exact .inr ⟨h.1,h.2.1⟩
 ·by_cases h0:o=.cells []
  ·subst h0;exact fun j n es y hj=>by simp at hj
  rcases wJ i o ho h0 with⟨h1,h2⟩ | h
  ·exact t.owns hR h1 h2
  ·exact h.2.2
 ·rw[hN]
  by_cases cF:b=B
  ·subst cF;exact⟨(t.lv i ho).1,(t.lv i ho).2.1⟩
  ·rw[t.ow b cF]at ho
   obtain⟨h1,h2⟩:=hR.az.z b i ho;exact⟨(t.m b cF).trans h1,Nat.lt_of_lt_of_le h2 t.fb⟩
theorem R.nf(t:Touch E g S w g' T' N' w' B dk dt)(hR:R E g S a w)(hT:S'.bm=T')(hN:S'.az.length=N')
  (kJ:∀i,iP (S.cx g w) ⟨w'.heap,g',N',T'⟩ i∨S.eR i)
  (B2:∀s v,look s S'.env=some v→look s S.env=some v∨∃x,a.tmps[s]?=some x∧bj ⟨w'.heap,g',N',T'⟩ v x)
  (B3:∀id cs,look id S'.bb=some cs→(look id S.bb=some cs∧dk≠some id∧(B<w.heap.size→g.ow B≠.obj id)) ∨
   (g'.ow (g'.κ id)=.obj id∧E.w0.heap.size≤g'.κ id∧g'.m (g'.κ id)=0 ∧
    ∃c e,w'.heap[g'.κ id]?=some (.cells c e (0,0))∧g'.cp id≤c.size∧∀(j:Nat) (v:V),cs[j]?=some v→v.cM=true∧∃y,c[j]?=some y∧bj ⟨w'.heap,g',N',T'⟩ v y))
  (tC:∀f k b,look f T'=some k→g'.τ f=some b→(dt≠some f∧(B<w.heap.size→g.ow B≠.tok f))∨(g'.ow b=.tok f∧(E.w0.heap.size≤b∨E.own b)∧b<w'.heap.size))
  (wJ:∀i o,S'.az[i]?=some o→(S.az[i]?=some o∧(B<w.heap.size→g.ow B≠.az i∧∀j,g.ow B≠.cell (g.γ i) j))∨(g'.ow (g'.γ i)=.az i∧BZ w'.heap g' N' (g'.γ i) o∧xK w'.heap g' (g'.γ i) o)):R E g' S' a w' :=
 R.B1 t hR hT hN kJ B2 B3 tC fun i o h _=>wJ i o h
def c7{α:Type}(f:Nat→α)(k:Nat)(v:α):Nat→α:=fun i=>if i=k then v else f i
theorem dP{α:Type}(f:Nat→α)(k:Nat)(v:α):c7 f k v k=v:=by simp[c7]
theorem gP{α:Type}(f:Nat→α){k i:Nat}(v:α)(h:i≠k):c7 f k v i=f i:=by simp[c7,h]
theorem B4{ob:Obj}(hR:R E g S a w)(hw:w'.heap=w.heap.push ob)(h1:w'.os=w.os)(h2:w'.tape=w.tape)(h3:w'.output=w.output)
  (hm:∀b,b≠w.heap.size→g'.m b=g.m b) (cJ:∀b,b≠w.heap.size→g'.ow b=g.ow b)
  (hκ:∀i,dk≠some i→g'.κ i=g.κ i) (fH:∀i,dk≠some i→g'.cp i=g.cp i) (hτ:∀i,dt≠some i→g'.τ i=g.τ i) (hT:∀i,dt≠some i→look i T'=look i S.bm)
  (hγ:∀i,i<S.az.length→g'.γ i=g.γ i) (hN:S.az.length≤N') (hγn:∀i,S.az.length≤i→i<N'→E.w0.heap.size≤g'.γ i) (uj:∀i,g'.ow w.heap.size=.az i→g'.m w.heap.size=0∧i<N') :
  Touch E g S w g' T' N' w' w.heap.size dk dt where
 os:=h1
 tape:=h2
 output:=h3
 size:=by rw[hw];simp
 heap:=fun b _ hb=>by rw[hw,Array.getElem?_push,if_neg (by omega)]
 m:=hm
 ow:=cJ
 κ:=hκ
 cp:=fH
 τ:=hτ
 T:=hT
 γ:=hγ
 fb:=hN
 γnew:=hγn
 fresh:=.inl hR.same.size
 ig:=fun _ _ h _=>absurd hR.same.size (Nat.not_le_of_lt h)
 lv:=fun i h=>⟨(uj i h).1,(uj i h).2,fun h=>absurd hR.same.size (Nat.not_le_of_lt h)⟩
 jk:=fun o y _ hy=>absurd (z6 hy) (Nat.lt_irrefl _)
 oC:=fun h=>absurd h (Nat.lt_irrefl _)
theorem B6{c:Array Value}{e:TypeId}(hw:w'.heap=w.heap.push (.cells c e (0,0))):w'.heap[w.heap.size]?=some (.cells c e (0,0)):=by
 rw[hw];simp
theorem R.newObj(hR:R E g S a w){id:Nat}(hn:S.eR id){c:Array Value}{e:TypeId}(hw:w'.heap=w.heap.push (.cells c e (0,0)))(h1:w'.os=w.os)(h2:w'.tape=w.tape)(h3:w'.output=w.output)
  {cs:List V} (fx:∀(j:Nat) (v:V),cs[j]?=some v→v.cM=true∧v.cu id=false∧∃y,c[j]?=some y∧bj (S.cx g w) v y) (cpn:Nat:=0) (hcpn:cpn≤c.size:=by exact Nat.zero_le _) :
  ∃g',R E g' { S with bb:=(id,cs)::S.bb } a w'∧g'.κ id=w.heap.size∧g'.cp id=cpn:=by
 let g':Gh:={ g with m:=c7 g.m w.heap.size 0,κ:=c7 g.κ id w.heap.size,cp:=c7 g.cp id cpn,ow:=c7 g.ow w.heap.size (.obj id) }
 have t:Touch E g S w g' S.bm S.az.length w' w.heap.size (some id) none:=B4 hR hw h1 h2 h3 (fun b hb=>gP _ _ hb) (fun b hb=>gP _ _ hb)
  (fun i hi=>gP _ _ (fun e=>hi (by rw[e]))) (fun i hi=>gP _ _ (fun e=>hi (by rw[e]))) (fun i _=>rfl) (fun i _=>rfl) (fun i _=>rfl) (Nat.le_refl _) (fun i a b=>absurd a (by omega))
  (fun i e=>by(have e:c7 g.ow w.heap.size (.obj id) w.heap.size=.az i:=e);rw[dP]at e;cases e)
 have kJ:∀i,iP (S.cx g w) ⟨w'.heap,g',S.az.length,S.bm⟩ i∨i=id:=fun i=>by
  by_cases hi:i=id
  ·exact .inr hi
  ·exact .inl (t.keeps hR (fun e=>hi (by cases e;rfl)) (fun e=>by cases e) (fun h=>absurd h (Nat.lt_irrefl _)))
 refine⟨g',R.nf t hR rfl rfl (fun i=>(kJ i).imp (fun z=>z) fun e=>by rw[e];exact hn) (fun s v hs=>.inl hs) (fun i ek ho=>?_) (fun f k b hf hb=>.inl ⟨(fun e=>by cases e),fun h=>absurd h (Nat.lt_irrefl _)⟩)
  (fun i o ho=>.inl ⟨ho,fun h=>absurd h (Nat.lt_irrefl _)⟩),dP _ _ _,dP _ _ _⟩
 ·rw[dQ]at ho
  by_cases hi:id=i
  ·subst hi
   rw[if_pos rfl]at ho;cases ho;refine .inr ⟨?_,?_,?_,c,e,?_,(by show c7 g.cp _ _ _≤_;rw[dP];exact hcpn),fun j v hj=>?_⟩
   ·show c7 g.ow _ _ (c7 g.κ _ _ _)=_;rw[dP,dP]
   ·show _≤c7 g.κ _ _ _;rw[dP];exact hR.same.size
   ·show c7 g.m _ _ (c7 g.κ _ _ _)=_;rw[dP,dP]
   ·show w'.heap[c7 g.κ _ _ _]?=_;rw[dP];exact B6 hw
   ·obtain⟨q1,q2,y,q3,q4⟩:=fx j v hj
    exact⟨q1,y,q3,q4.mono t.le fun i=>(kJ i).imp (fun z=>z) fun e=>by rw[e];exact q2⟩
  ·rw[if_neg hi]at ho
   exact .inl ⟨ho,fun e=>hi (by cases e;rfl),fun h=>absurd h (Nat.lt_irrefl _)⟩
theorem N7{v:V}{d:Nat}(h:v.cu d=false):∀u∈v.cells,u.cu d=false:=fun u hu=>by
 cases v with
 |agg cs=>exact NT h hu
 |_=>simp[V.cells]at hu;subst hu;exact h
theorem WR{o:Oper}{t:TypeId}{i:TypeInfo}{z:Value}{id:Nat}{cells:List V}{C:bC}(ho:o.op=.alloc t)(hi:P.info? t=some i)(hz:i.zero=some z)(hc:rX z.cells.toList cells=true)
  (hn:S.eR id) (hR:R E g S a w) (hd:∀d,o.dst=some d→d<E.nt) (aj:VO.run C o.dst S (.obj id cells)=some S'):ct P E o S S' a w:=by
 simp only[VO.run]at aj;cases aj;obtain⟨hl,hx⟩:=Aa (X:=S.cx g w) hc;obtain⟨g',jb,hκ,_⟩:=hR.newObj (w':=w.alloc (.cells z.cells t)) hn rfl rfl rfl rfl (cs:=cells) (fun j v hj=>by
  have bG:j<z.cells.size:=by have:=eZ hj;simp at hl;omega
  obtain⟨q1,q2,q3⟩:=hx j v z.cells[j] hj (by simp[bG])
  exact⟨q1,q2 _,z.cells[j],by simp[bG],q3⟩)
 refine ct.value (x:=.pointer (some ⟨w.heap.size,0,none⟩)) (w':=w.alloc (.cells z.cells t)) (g':=g') ?_ (jb.put hd ?_)
 ·simp[execOp,ho,Instr.alloc,zeroValue,typeInfo,hi,hz,newVar,newRow]
 ·rw[←hκ];exact .bK id 0
theorem WS{o:Oper}{t:TypeId}{id:Nat}{p:Operand}{x:bB}{C:bC}(ho:o.op=.box t p)(hp:bX p x=true)
  (hn:S.eR id) (EO:∀v,S.ev x=some v→v.cu id=false) (hR:R E g S a w) (hd:∀d,o.dst=some d→d<E.nt) (aj:VO.run C o.dst S (.box id x)=some S'):ct P E o S S' a w:=by
 simp only[VO.run]at aj;split at aj
 ·rename_i v hv
  cases hc:v.cells.all V.cM with
  |false=>simp[hc]at aj
  |true =>
   simp only[hc,cond_true]at aj;cases aj;have uk:∀u∈v.cells,u.cM=true:=by simpa [List.all_eq_true] using hc
   obtain⟨hl,hx⟩:=Ab (cZ hR hp hv) uk;obtain⟨g',jb,hκ,_⟩:=hR.newObj (w':=w.alloc (.cells (a.eval p).cells t)) hn rfl rfl rfl rfl (cs:=v.cells) (fun j u hj=>by
    have bG:j<(a.eval p).cells.size:=by have:=eZ hj;simp at hl;omega
    exact⟨uk u (List.mem_of_getElem? hj),N7 (EO v hv) u (List.mem_of_getElem? hj),(a.eval p).cells[j],by simp[bG],hx j u _ hj (by simp[bG])⟩)
   refine ct.value (x:=.pointer (some ⟨w.heap.size,0,none⟩)) (w':=w.alloc (.cells (a.eval p).cells t)) (g':=g') ?_ (jb.put hd ?_)
   ·simp[execOp,ho,Instr.box,newVar,newRow]
   ·rw[←hκ];exact .bK id 0
 ·cases aj
end
end Go.Vm
