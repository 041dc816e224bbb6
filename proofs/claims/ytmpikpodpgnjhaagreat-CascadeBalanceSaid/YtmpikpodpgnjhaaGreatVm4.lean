/- The value machine, 4: the operations that only compute. -/
import Derived.Test.YtmpikpodpgnjhaaGreatVm3
namespace Go.Vm
set_option linter.all false
def EK:Value→V→Bool
 |.int k n,.int k' n'=>decide (k=k')&&n==n'
 |.bool b,.bool c=>b==c
 |.string s,.str l=>s.data.toList==l
 |.slice none 0 0,.aK=>true
 |.pointer none,.fU=>true
 |.nilFunc,.fP=>true
 |.map none,.fV=>true
 |_,_=>false
def rX:List Value→List V→Bool
 |[],[]=>true
 |x::xs,v::vs=>EK x v&&rX xs vs
 |_,_=>false
def EL:Value→V→Bool
 |.agg xs,.agg cs=>rX xs.toList cs
 |x,v=>EK x v
theorem NX{X:Cx}{x:Value}{v:V}(h:EK x v=true):bj X v x∧v.cM=true∧∀d,v.cu d=false:=by
 unfold EK at h;split at h
 ·simp at h;obtain⟨rfl,rfl⟩:=h
  exact⟨.plain (.int _ _) (fun _ _ _ e=>by cases e),rfl,fun _=>rfl⟩
 ·simp at h;subst h
  exact⟨.plain (.bool _) (fun _ _ _ e=>by cases e),rfl,fun _=>rfl⟩
 ·simp at h;subst h
  exact⟨.plain (.str _) (fun _ _ _ e=>by cases e),rfl,fun _=>rfl⟩
 ·exact⟨.plain .aK (fun _ _ _ e=>by cases e),rfl,fun _=>rfl⟩
 ·exact⟨.fU,rfl,fun _=>rfl⟩
 ·exact⟨.fP,rfl,fun _=>rfl⟩
 ·exact⟨.fV,rfl,fun _=>rfl⟩
 ·cases h
theorem Aa{X:Cx}:∀{xs:List Value} {vs:List V},rX xs vs=true→vs.length=xs.length ∧
  (∀(i:Nat) (v:V) (x:Value),vs[i]?=some v→xs[i]?=some x→v.cM=true∧(∀d,v.cu d=false)∧bj X v x)
 |[],[],_=>⟨rfl,by simp⟩
 |[],_::_,h=>by simp[rX]at h
 |_::_,[],h=>by simp[rX]at h
 |x::xs,v::vs,h=>by
  simp only[rX,Bool.and_eq_true]at h;obtain⟨h1,h2⟩:=h;obtain⟨hl,hr⟩:=Aa (X:=X) h2;refine⟨by simp[hl],fun i u y hu hy=>?_⟩
  cases i with
  |zero =>
   simp at hu hy;subst hu;subst hy;obtain⟨a,b,c⟩:=NX (X:=X) h1;exact⟨b,c,a⟩
  |succ j=>exact hr j u y (by simpa using hu) (by simpa using hy)
theorem NY{X:Cx}{x:Value}{v:V}(h:EL x v=true):bj X v x:=by
 unfold EL at h;split at h
 ·obtain⟨hl,hr⟩:=Aa (X:=X) h
  exact .agg _ _ (by simpa using hl) (fun i v x hv hx=>(hr i v x hv (by simpa using hx)).2.2)
 ·exact(NX h).1
def bX:Operand→bB→Bool
 |.tmp t,.t s=>t==s
 |.const v,.c u=>EL v u
 |.func f,.c (.fn g [])=>f==g
 |_,_=>false
section
variable {P:Program} {E:Entry} {g:Gh} {S:St} {a:Act} {w:World}
theorem cZ(hR:R E g S a w){y:Operand}{x:bB}(ho:bX y x=true){v:V}(hv:S.ev x=some v):bj (S.cx g w) v (a.eval y):=by
 unfold bX at ho;split at ho
 ·simp at ho;subst ho
  obtain⟨z,hz,hr⟩:=hR.env _ v hv;simp only[Act.eval];simpa [hz] using hr
 ·simp only[St.ev,Option.some.injEq]at hv;subst hv
  exact NY ho
 ·simp at ho;subst ho
  simp only[St.ev,Option.some.injEq]at hv;subst hv;exact .fn _ [] #[] rfl (by simp)
 ·cases ho
theorem lA{X:Cx}{k:IntKind}{n:Int}{x:Value}(h:bj X (.int k n) x):x=.int k n:=by
 cases h with|plain h _=>cases h;rfl
theorem wF{X:Cx}{b:Bool}{x:Value}(h:bj X (.bool b) x):x=.bool b:=by
 cases h with|plain h _=>cases h;rfl
theorem rh{X:Cx}{n:Nat}{x:Value}(h:bj X (.dW n) x):kG x:=by
 cases h with
 |plain h _=>cases h
 |dW h=>exact h
theorem B0{X:Cx}{n:Nat}{x:Value}(h:bj X (.fD n) x):∃a cap,x=.slice (some a) 0 cap:=by
 cases h with
 |plain h _=>cases h
 |fD n a cap=>exact⟨a,cap,rfl⟩
theorem nV{X:Cx}{x:Value}(h:bj X .aK x):x=.slice none 0 0:=by
 cases h with|plain h _=>cases h;rfl
theorem Wl{X:Cx}{l:List UInt8}{x:Value}(h:bj X (.str l) x):∃s:ByteArray,x=.string s∧s.data.toList=l:=by
 cases h with|plain h _=>cases h;exact⟨_,rfl,rfl⟩
theorem wG{X:Cx}{id off:Nat}{x:Value}(h:bj X (.bK id off) x):x=.pointer (some ⟨X.g.κ id,off,none⟩):=by
 cases h with
 |plain h _=>cases h
 |bK=>rfl
theorem wH{X:Cx}{i off:Nat}{x:Value}(h:bj X (.bO i off) x):x=.pointer (some ⟨X.g.γ i,off,none⟩)∧i<X.N:=by
 cases h with
 |plain h _=>cases h
 |bO _ _ h=>exact⟨rfl,h⟩
theorem EM{X:Cx}{i s n:Nat}{x:Value}(h:bj X (.dB i s n) x):i<X.N∧((∃cap,n≤cap∧x=.slice (some ⟨X.g.γ i,0,none⟩) n cap)∨n=0∧kG x):=by
 cases h with
 |plain h _=>cases h
 |dB _ _ _ cap h hl=>exact⟨h,.inl ⟨cap,hl,rfl⟩⟩
 |ta _ _ h hz=>exact⟨h,.inr ⟨rfl,hz⟩⟩
theorem Wm{X:Cx}{id s off n:Nat}{x:Value}(h:bj X (.gj id s off n) x):∃cap,n≤cap∧x=.slice (some ⟨X.g.κ id,off*s,none⟩) n cap:=by
 cases h with
 |plain h _=>cases h
 |gj _ _ _ _ cap h=>exact⟨cap,h,rfl⟩
theorem pJ{X:Cx}{id s n:Nat}{x:Value}(h:bj X (.cb id s n) x):(∃cap,n≤cap∧cap*s=X.g.cp id∧x=.slice (some ⟨X.g.κ id,0,none⟩) n cap)∨n=0∧kG x∧X.g.cp id=0:=by
 cases h with
 |plain h _=>cases h
 |cb _ _ _ cap h hc=>exact .inl ⟨cap,h,hc,rfl⟩
 |qo _ _ h hc=>exact .inr ⟨rfl,h,hc⟩
theorem pj{X:Cx}{cs:List V}{x:Value}(h:bj X (.agg cs) x) :
  ∃xs:Array Value,x=.agg xs∧cs.length=xs.size∧∀(i:Nat) (v:V) (y:Value),cs[i]?=some v→xs[i]?=some y→bj X v y:=by
 cases h with
 |plain h _=>cases h
 |agg _ xs hl hx=>exact⟨xs,rfl,hl,hx⟩
theorem aqb{X:Cx}{cs:List V}{x:Value}(h:bj X (.tuple cs) x) :
  ∃xs:Array Value,x=.tuple xs∧cs.length=xs.size∧∀(i:Nat) (v:V) (y:Value),cs[i]?=some v→xs[i]?=some y→bj X v y:=by
 cases h with
 |plain h _=>cases h
 |tuple _ xs hl hx=>exact⟨xs,rfl,hl,hx⟩
theorem bj.int{X:Cx}(k:IntKind)(n:Int):bj X (.int k n) (.int k n):=.plain (.int k n) (fun _ _ _ e=>by cases e)
theorem bj.bool{X:Cx}(b:Bool):bj X (.bool b) (.bool b):=.plain (.bool b) (fun _ _ _ e=>by cases e)
structure PW(X:Cx)(cs:List V)(xs:List Value):Prop where
 len:cs.length=xs.length
 at_:∀(i:Nat) (v:V) (y:Value),cs[i]?=some v→xs[i]?=some y→bj X v y
theorem fp.xM{h:Array Obj}{m:Nat→Nat}{v:V}{x:Value}(hr:fp h m v x):x.oneCell'=true:=by
 cases hr<;>rfl
theorem Il{X:Cx}{v:V}{x:Value}(h:bj X v x)(hc:v.cM=true):x.oneCell'=true:=by
 cases h with
 |plain h _=>exact h.xM
 |fC h=>exact h.xM
 |dW h=>rcases h with rfl | ⟨a,rfl⟩<;>rfl
 |qo _ _ h _=>rcases h with rfl | ⟨a,rfl⟩<;>rfl
 |ta _ _ _ h=>rcases h with rfl | ⟨a,rfl⟩<;>rfl
 |undef=>simp[V.cM]at hc
 |agg=>simp[V.cM]at hc
 |tuple=>simp[V.cM]at hc
 |_=>rfl
theorem fp.cells{h:Array Obj}{m:Nat→Nat}{v:V}{x:Value}(hr:fp h m v x):x.cells = #[x]:=by
 cases hr<;>rfl
theorem Ab{X:Cx}{v:V}{x:Value}(h:bj X v x)(hu:∀u∈v.cells,u.cM=true):PW X v.cells x.cells.toList:=by
 cases h with
 |undef=>exact absurd (hu .undef (by simp[V.cells])) (by simp[V.cM])
 |plain h ht =>
  have hx:=h.cells;have hv:v.cells=[v]:=by cases h<;>rfl
  rw[hv,hx];refine⟨rfl,fun i u y hu hy=>?_⟩;cases i with
  |zero=>simp at hu hy;subst hu;subst hy;exact .plain h ht
  |succ j=>simp at hu
 |dW h =>
  refine⟨by rcases h with rfl | ⟨a,rfl⟩<;>rfl,fun i u y hu hy=>?_⟩
  have hx:x.cells = #[x]:=by rcases h with rfl | ⟨a,rfl⟩<;>rfl
  rw[hx]at hy;cases i with
  |zero=>simp[V.cells]at hu hy;subst hu;subst hy;exact .dW h
  |succ j=>simp[V.cells]at hu
 |fD n a cap=>exact⟨rfl,fun i u y hu hy=>by cases i with|zero=>(simp[V.cells,Value.cells]at hu hy;subst hu;subst hy;exact .fD n a cap)|succ j=>simp[V.cells]at hu⟩
 |fC h =>
  rename_i n es;have hx:=h.cells;have hv:(V.fC n es).cells=[.fC n es]:=rfl;rw[hv,hx];refine⟨rfl,fun i u y hu hy=>?_⟩;cases i with
  |zero=>simp at hu hy;subst hu;subst hy;exact .fC h
  |succ j=>simp at hu
 |agg cs xs hl hx=>exact⟨by simpa [V.cells,Value.cells] using hl,fun i u y hu hy=>hx i u y hu (by simpa [Value.cells] using hy)⟩
 |tuple cs xs hl hx=>exact absurd (hu (.tuple cs) (by simp[V.cells])) (by simp[V.cM])
 |bK id off=>exact⟨rfl,fun i u y hu hy=>by cases i with|zero=>(simp[V.cells,Value.cells]at hu hy;subst hu;subst hy;exact .bK id off)|succ j=>simp[V.cells]at hu⟩
 |cb id off n cap h hc=>exact⟨rfl,fun i u y hu hy=>by cases i with|zero=>(simp[V.cells,Value.cells]at hu hy;subst hu;subst hy;exact .cb id off n cap h hc)|succ j=>simp[V.cells]at hu⟩
 |bO i off h=>exact⟨rfl,fun i u y hu hy=>by cases i with|zero=>(simp[V.cells,Value.cells]at hu hy;subst hu;subst hy;exact .bO _ off h)|succ j=>simp[V.cells]at hu⟩
 |gj id s off n cap h=>exact⟨rfl,fun i u y hu hy=>by cases i with|zero=>(simp[V.cells,Value.cells]at hu hy;subst hu;subst hy;exact .gj id s off n cap h)|succ j=>simp[V.cells]at hu⟩
 |dB i s n cap h hl=>exact⟨rfl,fun i u y hu hy=>by cases i with|zero=>(simp[V.cells,Value.cells]at hu hy;subst hu;subst hy;exact .dB _ s n cap h hl)|succ j=>simp[V.cells]at hu⟩
 |qo id s h hc =>
  refine⟨by rcases h with rfl | ⟨a,rfl⟩<;>rfl,fun i u y hu hy=>?_⟩
  have hx:x.cells = #[x]:=by rcases h with rfl | ⟨a,rfl⟩<;>rfl
  rw[hx]at hy;cases i with
  |zero=>simp[V.cells]at hu hy;subst hu;subst hy;exact .qo id s h hc
  |succ j=>simp[V.cells]at hu
 |ta k s h hz =>
  refine⟨by rcases hz with rfl | ⟨a,rfl⟩<;>rfl,fun i u y hu hy=>?_⟩
  have hx:x.cells = #[x]:=by rcases hz with rfl | ⟨a,rfl⟩<;>rfl
  rw[hx]at hy;cases i with
  |zero=>simp[V.cells]at hu hy;subst hu;subst hy;exact .ta k s h hz
  |succ j=>simp[V.cells]at hu
 |fU=>exact⟨rfl,fun i u y hu hy=>by cases i with|zero=>(simp[V.cells,Value.cells]at hu hy;subst hu;subst hy;exact .fU)|succ j=>simp[V.cells]at hu⟩
 |fa row off b o ys hb hc hv hp hm=>exact⟨rfl,fun i u y hu hy=>by cases i with|zero=>(simp[V.cells,Value.cells]at hu hy;subst hu;subst hy;exact .fa row off b o ys hb hc hv hp hm)|succ j=>simp[V.cells]at hu⟩
 |fn f cap xs hl hx=>exact⟨rfl,fun i u y hu hy=>by cases i with|zero=>(simp[V.cells,Value.cells]at hu hy;subst hu;subst hy;exact .fn f cap xs hl hx)|succ j=>simp[V.cells]at hu⟩
 |fP=>exact⟨rfl,fun i u y hu hy=>by cases i with|zero=>(simp[V.cells,Value.cells]at hu hy;subst hu;subst hy;exact .fP)|succ j=>simp[V.cells]at hu⟩
 |map i h=>exact⟨rfl,fun i u y hu hy=>by cases i with|zero=>(simp[V.cells,Value.cells]at hu hy;subst hu;subst hy;exact .map _ h)|succ j=>simp[V.cells]at hu⟩
 |fV=>exact⟨rfl,fun i u y hu hy=>by cases i with|zero=>(simp[V.cells,Value.cells]at hu hy;subst hu;subst hy;exact .fV)|succ j=>simp[V.cells]at hu⟩
theorem Im{X:Cx}{v:V}{x:Value}(h:bj X v x):bj X v.j7 x:=by
 cases h with
 |fC h=>exact .plain h (fun _ _ _ e=>by cases e)
 |dW h=>exact .dW h
 |fD n a cap=>exact .fD n a cap
 |plain h t=>cases h<;>exact .plain (by first|exact .int _ _|exact .bool _|exact .str _|exact .aK|exact .nil _ _|exact .empty _ _ _ _|(rename_i a b c d e f g i;exact .slice _ _ _ _ _ _ _ (by assumption) (by assumption) (by assumption) (by assumption) (by assumption) (by assumption) (by assumption))) t
 |undef=>exact .undef
 |bK=>exact .bK _ _
 |cb _ _ _ _ h hc=>exact .cb _ _ _ _ h hc
 |bO _ _ h=>exact .bO _ _ h
 |qo _ _ h hc=>exact .qo _ _ h hc
 |gj _ _ _ _ _ h=>exact .gj _ _ _ _ _ h
 |dB _ _ _ _ h hl=>exact .dB _ _ _ _ h hl
 |ta _ _ h hz=>exact .ta _ _ h hz
 |fU=>exact .fU
 |fa row off b o ys hb hc hv hp hm=>exact .fa row off b o ys hb hc hv hp hm
 |fn f cap xs hl hx=>exact .fn f cap xs hl hx
 |fP=>exact .fP
 |map _ h=>exact .map _ h
 |fV=>exact .fV
 |agg cs xs hl hx=>exact .agg cs xs hl hx
 |tuple cs xs hl hx=>exact .tuple cs xs hl hx
theorem NZ{X:Cx}{v:V}{x:Value}(h:bj X v x):bj X v.kF x:=by
 have key:(∃cs,v=.agg cs)∨v.kF=v.j7:=by
  cases v<;>first|(left;exact⟨_,rfl⟩)|(right;rfl)
 rcases key with⟨cs,rfl⟩ | e
 ·obtain⟨xs,e,hl,hx⟩:=pj h
  subst e;refine .agg _ _ (by simpa using hl) (fun i u y hu hy=>?_)
  rw[List.getElem?_map]at hu;cases hc:cs[i]? with
  |none=>simp[hc]at hu
  |some z =>
   simp[hc]at hu;subst hu;exact Im (hx i z y hc hy)
 ·rw[e];exact Im h
theorem Wo{X:Cx}{r:jx}{v:V}{x:Value}(h:bj X v x):bj X (xF r v) x:=by
 cases r
 ·exact h
 ·exact NZ h
 ·exact h
def ct(P:Program)(E:Entry)(o:Oper)(S:St)(S':St)(a:Act)(w:World):Prop :=
 ∀(K:Act→World→Prop) (Q:Exit→Act→World→Prop),(∀g' a' w',R E g' S' a' w'→K a' w')→o.wp P a w K Q
theorem ct.value{o:Oper}{S S':St}{x:Value}{g':Gh}{w':World}(aj:(execOp a.eval o).run P w=.ok (.value x) w')(hR:R E g' S' (a.put o.dst x) w') :
  ct P E o S S' a w:=fun K Q hK=>by
 unfold Oper.wp;rw[aj,Oper.upon_value];exact hK _ _ _ hR
theorem ct.skip{o:Oper}{S S':St}{g':Gh}{w':World}(aj:(execOp a.eval o).run P w=.ok .skip w')(hd:o.dst=none)(hR:R E g' S' a w') :
  ct P E o S S' a w:=fun K Q hK=>by
 unfold Oper.wp;rw[aj,Oper.upon_skip,hd];exact hK _ _ _ hR
theorem ct.put{o:Oper}{v:V}{x:Value}(hR:R E g S a w)(hd:∀d,o.dst=some d→d<E.nt)
  (aj:(execOp a.eval o).run P w=.ok (.value x) w) (hx:bj (S.cx g w) v x):ct P E o S (S.put o.dst v) a w :=
 .value aj (hR.put hd hx)
theorem N3{o:Oper}{y:Operand}{x:bB}{S':St}{C:bC}(ho:o.op=.move y∨o.op=.assign y)(hx:bX y x=true)(hR:R E g S a w)
  (hd:∀d,o.dst=some d→d<E.nt) (aj:VO.run C o.dst S (.mv x)=some S'):ct P E o S S' a w:=by
 simp only[VO.run]at aj;split at aj
 ·rename_i v hv
  cases aj;refine ct.put hR hd (x:=a.eval y) ?_ (cZ hR hx hv);rcases ho with ho|ho<;>simp[execOp,ho]
 ·cases aj
theorem Wp{o:Oper}{c p q:Operand}{c' p' q':bB}{S':St}{C:bC}(ho:o.op=.pick c p q)(hc:bX c c'=true)(hp:bX p p'=true)(hq:bX q q'=true)
  (hR:R E g S a w) (hd:∀d,o.dst=some d→d<E.nt) (aj:VO.run C o.dst S (.pick c' p' q')=some S'):ct P E o S S' a w:=by
 simp only[VO.run]at aj;split at aj
 ·rename_i t ht
  split at aj
  ·rename_i v hv
   cases aj;have h1:=wF (cZ hR hc ht);refine ct.put hR hd (x:=if t then a.eval p else a.eval q) ?_ ?_
   ·simp[execOp,ho,h1,asBool]
   ·cases t
    ·exact cZ hR hq hv
    ·exact cZ hR hp hv
  ·cases aj
 ·cases aj
theorem Wq(op:BinOp)(t:TypeId)(x y:Operand)(k k':IntKind)(m n:Int):(eqGuard op t x y (.int k m) (.int k' n)).run P w=.ok () w:=by
 unfold eqGuard;split<;>simp
theorem Wr(op:BinOp)(t:TypeId)(x y:Operand)(m n:Bool):(eqGuard op t x y (.bool m) (.bool n)).run P w=.ok () w:=by
 unfold eqGuard;split<;>simp
theorem ja{t:TypeId}{d:TypeDesc}(h:P.underlying t=some d):(underlying t).run P w=.ok d w:=by
 unfold underlying;simp[h]
omit E g S a in
theorem Ws{op:BinOp}{t:TypeId}{k:IntKind}{m n:Int}{v:V}(h:BY op k m n=some v) :
  ∃x,(binOp op t (.int k m) (.int k n)).run P w=.ok x w∧∀X:Cx,bj X v x:=by
 unfold BY at h;split at h
 all_goals (try (cases h;done))
 all_goals (try (split at h;· cases h))
 all_goals (cases h)
 all_goals first
  |(refine⟨_,?_,fun X=>bj.int _ _⟩;simp[binOp,Op.intArith];done)
  |(refine⟨_,?_,fun X=>bj.int _ _⟩;simp[binOp,Op.intDiv, *];done)
  |(refine⟨_,?_,fun X=>bj.int _ _⟩;simp[binOp,Op.shift, *];done)
  |(refine⟨_,?_,fun X=>bj.bool _⟩;simp[binOp,Op.intCmp];done)
theorem Wt{o:Oper}{op:BinOp}{t t':TypeId}{p q:Operand}{x y:bB}{S':St}{C:bC}(ho:o.op=.binOp op t p q t')(hp:bX p x=true)(hq:bX q y=true)
  (hR:R E g S a w) (hd:∀d,o.dst=some d→d<E.nt) {k:IntKind} {m:Int} {k':IntKind} {n:Int} (h1:S.ev x=some (.int k m)) (h2:S.ev y=some (.int k' n))
  (aj:VO.run C o.dst S (.bin op x y)=some S'):ct P E o S S' a w:=by
 simp only[VO.run,h1,h2,V.bin]at aj;by_cases hk:k=k'
 ·subst hk
  simp only[decide_true,cond_true]at aj;split at aj
  ·rename_i v hv
   cases aj;have e1:=lA (cZ hR hp h1);have e2:=lA (cZ hR hq h2);obtain⟨z,hz,hx⟩:=Ws (P:=P) (w:=w) (t:=t) hv;refine ct.put hR hd (x:=z) ?_ (hx _);simp[execOp,ho,e1,e2,Wq,hz]
  ·cases aj
 ·simp[hk]at aj
theorem Wu{t:TypeId}(ht:P.underlying t=some .bool)(m n:Bool):(Op.equal t (.bool m) (.bool n)).run P w=.ok (m==n) w:=by
 unfold Op.equal;rw[show Op.maxDepth=9999+1 from rfl,Op.equalIn];simp[ja ht]
theorem Wv{o:Oper}{neg:Bool}{t t':TypeId}{p q:Operand}{x y:bB}{S':St}{C:bC}(ho:o.op=.binOp (if neg then .neq else .eql) t p q t')(ht:P.underlying t=some .bool)(hp:bX p x=true)(hq:bX q y=true)
  (hR:R E g S a w) (hd:∀d,o.dst=some d→d<E.nt) (aj:VO.run C o.dst S (.beq neg x y)=some S'):ct P E o S S' a w:=by
 simp only[VO.run]at aj;split at aj
 ·rename_i m n h1 h2
  cases aj;have e1:=wF (cZ hR hp h1);have e2:=wF (cZ hR hq h2);refine ct.put hR hd (x:=.bool (bif neg then m != n else m==n)) ?_ (bj.bool _);cases neg<;>simp[execOp,ho,e1,e2,Wr,binOp,Wu ht];cases m<;>cases n<;>rfl
 ·cases aj
theorem Ww{o:Oper}{op:BinOp}{t t':TypeId}{p q:Operand}{x y:bB}{S':St}{C:bC}(ho:o.op=.binOp op t p q t')(hp:bX p x=true)(hq:bX q y=true)
  (hR:R E g S a w) (hd:∀d,o.dst=some d→d<E.nt) (aj:VO.run C o.dst S (.bin op x y)=some S'):ct P E o S S' a w:=by
 have xN:=aj;simp only[VO.run]at aj;split at aj
 ·rename_i u v h1 h2
  split at aj
  ·rename_i z hz
   unfold V.bin at hz;split at hz
   ·exact Wt ho hp hq hR hd h1 h2 xN
   ·cases hz
  ·cases aj
 ·cases aj
theorem Wx{o:Oper}{op:UnOp}{t:TypeId}{p:Operand}{x:bB}{S':St}{C:bC}(ho:o.op=.unOp op t p)(hp:bX p x=true)
  (hR:R E g S a w) (hd:∀d,o.dst=some d→d<E.nt) (aj:VO.run C o.dst S (.un op x)=some S'):ct P E o S S' a w:=by
 simp only[VO.run]at aj;split at aj
 ·rename_i u hu
  have hr:=cZ hR hp hu;split at aj
  ·rename_i v hv
   cases aj;unfold V.un at hv;split at hv
   ·have e:=wF hr
    split at hv<;>cases hv;refine ct.put hR hd (x:=_) ?_ (bj.bool _);simp[execOp,ho,e,Op.unary]
    try rfl
   ·have e:=lA hr
    split at hv<;>cases hv;refine ct.put hR hd (x:=_) ?_ (bj.int _ _);simp[execOp,ho,e,Op.unary,Op.intArith]
    try rfl
   ·cases hv
  ·cases aj
 ·cases aj
theorem Wy{o:Oper}{s t:TypeId}{k:IntKind}{d:TypeDesc}{p:Operand}{x:bB}{S':St}{C:bC}(ho:o.op=.convert s t p)(hs:P.underlying s=some d)(ht:P.underlying t=some (.int k))(hp:bX p x=true)
  (hR:R E g S a w) (hd:∀d,o.dst=some d→d<E.nt) (aj:VO.run C o.dst S (.conv k x)=some S'):ct P E o S S' a w:=by
 simp only[VO.run]at aj;split at aj
 ·rename_i j n hn
  cases aj;have e:=lA (cZ hR hp hn);refine ct.put hR hd (x:=_) ?_ (bj.int _ _);simp[execOp,ho,e,convert,ja hs,ja ht,Conv.intToInt]
  try rfl
 ·cases aj
theorem Wz{o:Oper}{p:Operand}{x:bB}{S':St}{C:bC}(ho:o.op=.nilCheck p)(hp:bX p x=true)
  (hR:R E g S a w) (hd:∀d,o.dst=some d→d<E.nt) (aj:VO.run C o.dst S (.qn x)=some S'):ct P E o S S' a w:=by
 simp only[VO.run]at aj;split at aj
 ·rename_i i f hv
  cases aj;have hr:=cZ hR hp hv;have e:=wG hr;refine ct.put hR hd (x:=_) ?_ hr;simp[execOp,ho,e]
 ·rename_i i f hv
  cases aj;have hr:=cZ hR hp hv;obtain⟨e,_⟩:=wH hr;refine ct.put hR hd (x:=_) ?_ hr;simp[execOp,ho,e]
 ·rename_i r f hv
  cases aj;have hr:=cZ hR hp hv;obtain⟨b,o',e⟩:∃b o',a.eval p=.pointer (some ⟨b,o',none⟩):=by
   generalize a.eval p=z at hr;cases hr with
   |plain h _=>cases h
   |fa _ _ b o'=>exact⟨b,_,rfl⟩
  refine ct.put hR hd (x:=_) ?_ hr;simp[execOp,ho,e]
 ·cases aj
theorem N4{X:Cx}{v:V}{x:Value}(h:bj X v x)(n:Nat) :
  (∀i o,v=.bK i o→∃b f,x=.pointer (some ⟨b,f,none⟩)∧bj X (.bK i (o+n)) (.pointer (some ⟨b,f+n,none⟩))) ∧
  (∀i o,v=.bO i o→∃b f,x=.pointer (some ⟨b,f,none⟩)∧bj X (.bO i (o+n)) (.pointer (some ⟨b,f+n,none⟩))) ∧
  (∀r o,v=.fa r o→∃b f,x=.pointer (some ⟨b,f,none⟩)∧bj X (.fa r (o+n)) (.pointer (some ⟨b,f+n,none⟩))):=by
 refine⟨fun i o e=>?_,fun i o e=>?_,fun r o e=>?_⟩
 ·subst e;rw[wG h];exact⟨_,_,rfl,.bK _ _⟩
 ·subst e;obtain⟨e,hi⟩:=wH h;rw[e];exact⟨_,_,rfl,.bO _ _ hi⟩
 ·subst e
  cases h with
  |plain h _=>cases h
  |fa _ _ b o' ys hb hc hv hp hm=>exact⟨_,_,rfl,by rw[Nat.add_assoc];exact .fa r (o+n) b o' ys hb hc hv hp hm⟩
theorem kI(b f n:Nat):(⟨b,f,none⟩:Addr).add n=⟨b,f+n,none⟩:=by
 unfold Addr.add;split
 ·simp[*]
 ·rfl
theorem nW{t:TypeId}{n:Nat}(h:(P.info? t).map (·.size)=some n):(sizeOf t).run P w=.ok n w:=by
 cases hi:P.info? t with
 |none=>simp[hi]at h
 |some i=>simp[hi]at h;simp[sizeOf,typeInfo,hi,h]
theorem WA{o:Oper}{s:TypeId}{fi off:Nat}{fs:Array Field}{f:Field}{n:Nat}{p:Operand}{x:bB}{S':St}{C:bC}(ho:o.op=.fieldAddr s p fi)(hs:P.underlying s=some (.struct fs))
  (hf:fs[fi]?=some f) (hn:(P.info? f.type).map (·.size)=some n) (h0:n≠0) (nb:f.offset=off) (hp:bX p x=true)
  (hR:R E g S a w) (hd:∀d,o.dst=some d→d<E.nt) (aj:VO.run C o.dst S (.qW off x)=some S'):ct P E o S S' a w:=by
 simp only[VO.run]at aj;split at aj
 all_goals first|(cases aj;done)|skip
 all_goals
  rename_i hv;cases aj;obtain⟨m1,m2,m3⟩:=N4 (cZ hR hp hv) off
 ·obtain⟨b,q,e,hr⟩:=m1 _ _ rfl
  refine ct.put hR hd (x:=_) ?_ hr;simp[execOp,ho,e,Instr.fieldAt,ja hs,hf,Instr.sureAddr,fieldPlace,nW hn,h0,nb,kI]
 ·obtain⟨b,q,e,hr⟩:=m2 _ _ rfl
  refine ct.put hR hd (x:=_) ?_ hr;simp[execOp,ho,e,Instr.fieldAt,ja hs,hf,Instr.sureAddr,fieldPlace,nW hn,h0,nb,kI]
 ·obtain⟨b,q,e,hr⟩:=m3 _ _ rfl
  refine ct.put hR hd (x:=_) ?_ hr;simp[execOp,ho,e,Instr.fieldAt,ja hs,hf,Instr.sureAddr,fieldPlace,nW hn,h0,nb,kI]
theorem WB{o:Oper}{t:TypeId}{len:Nat}{el:TypeId}{sz:Nat}{p q:Operand}{x i:bB}{S':St}{C:bC}(ho:o.op=.indexAddr t p q)(ht:P.underlying t=some (.array len el))
  (hn:(P.info? el).map (·.size)=some sz) (hp:bX p x=true) (hq:bX q i=true)
  (hR:R E g S a w) (hd:∀d,o.dst=some d→d<E.nt) (aj:VO.run C o.dst S (.eg (some len) sz x i)=some S'):ct P E o S S' a w:=by
 simp only[VO.run]at aj;split at aj
 ·rename_i u k m hu hm
  have e2:=lA (cZ hR hq hm);cases hc:(decide (0≤m)&&decide (m<(len:Int))) with
  |false=>simp[hc]at aj
  |true =>
   simp only[hc,cond_true]at aj;simp only[Bool.and_eq_true,decide_eq_true_eq]at hc;have hr:=cZ hR hp hu;obtain⟨m1,m2,m3⟩:=N4 hr (m.toNat*sz);split at aj<;>first|(cases aj;done)|skip
   all_goals cases aj
   ·obtain⟨b,f,e,hx⟩:=m1 _ _ rfl
    refine ct.put hR hd (x:=_) ?_ hx;simp[execOp,ho,e,e2,Instr.indexAt,asIntOf,ja ht,Instr.sureAddr,nW hn,hc,kI]
   ·obtain⟨b,f,e,hx⟩:=m2 _ _ rfl
    refine ct.put hR hd (x:=_) ?_ hx;simp[execOp,ho,e,e2,Instr.indexAt,asIntOf,ja ht,Instr.sureAddr,nW hn,hc,kI]
   ·obtain⟨b,f,e,hx⟩:=m3 _ _ rfl
    refine ct.put hR hd (x:=_) ?_ hx;simp[execOp,ho,e,e2,Instr.indexAt,asIntOf,ja ht,Instr.sureAddr,nW hn,hc,kI]
 ·cases aj
theorem eZ{α:Type}{l:List α}{i:Nat}{x:α}(h:l[i]?=some x):i<l.length:=by
 rcases Nat.lt_or_ge i l.length with h' | h'
 ·exact h'
 ·simp[List.getElem?_eq_none h']at h
theorem WC{o:Oper}{t:TypeId}{el:TypeId}{sz:Nat}{p q:Operand}{x i:bB}{S':St}{C:bC}(ho:o.op=.indexAddr t p q)(ht:P.underlying t=some (.slice el))
  (hn:(P.info? el).map (·.size)=some sz) (hp:bX p x=true) (hq:bX q i=true)
  (hR:R E g S a w) (hd:∀d,o.dst=some d→d<E.nt) (aj:VO.run C o.dst S (.eg none sz x i)=some S'):ct P E o S S' a w:=by
 simp only[VO.run]at aj;split at aj
 ·rename_i tk m es k z hu hm
  have e2:=lA (cZ hR hq hm);cases hc:(decide (0≤z)&&(m==sz)) with
  |false=>simp[hc]at aj
  |true =>
   simp only[hc,cond_true]at aj;simp only[Bool.and_eq_true,decide_eq_true_eq,beq_iff_eq]at hc;obtain⟨hz,rfl⟩:=hc;split at aj
   ·rename_i row iI
    cases aj;have bG:=eZ iI;have hr:=cZ hR hp hu;obtain⟨b,off,cap,ys,e,hb,eP,h1,h2,h3,h3p,h4⟩:∃(b off cap:Nat) (ys:Nat→Nat→Value),a.eval p=.slice (some ⟨b,off,none⟩) es.length cap∧b<w.heap.size∧es.length≤cap ∧
      (∀(i:Nat) (row:List V),es[i]?=some row→row.length=m) ∧
      (∀(i:Nat) (row:List V) (j:Nat) (v:V),es[i]?=some row→row[j]?=some v→cellAt w.heap b (off+i*m+j)=some (ys i j)) ∧
      (∀(i:Nat) (row:List V) (j:Nat) (v:V),es[i]?=some row→row[j]?=some v→fp w.heap g.m v (ys i j)) ∧
      (∀(i:Nat) (row:List V) (j:Nat) (v:V),es[i]?=some row→row[j]?=some v→v.plain=true)∧off+es.length*m≤g.m b:=by
     generalize a.eval p=y at hr;cases hr with
     |plain h _ =>
      cases h with
      |nil=>simp at bG
      |empty=>simp at bG
      |slice _ _ _ b off cap ys hb eP iI hc hv hp hm=>exact⟨b,off,cap,ys,rfl,hb,eP,iI,hc,hv,hp,hm⟩
    refine ct.put hR hd (x:=.pointer (some ⟨b,off+z.toNat*m,none⟩)) ?_ ?_
    ·have xO:z<(es.length:Int):=by omega
     simp[execOp,ho,e,e2,Instr.indexAt,asIntOf,ja ht,nW hn,hz,xO,kI]
    ·refine .fa row 0 b (off+z.toNat*m) (ys z.toNat) hb (fun j v hj=>h2 _ row j v iI hj) (fun j v hj=>h3 _ row j v iI hj) (fun j v hj=>h3p _ row j v iI hj) ?_
     have:=h1 _ row iI;have h5:z.toNat*m+m≤es.length*m:=by
      have:=Nat.mul_le_mul_right m bG;rw[Nat.succ_mul]at this;exact this
     show off+z.toNat*m+row.length≤g.m b;omega
   ·cases aj
 ·rename_i id off len k z hu hm
  have e2:=lA (cZ hR hq hm);cases hc:(decide (0≤z)&&decide (z<(len:Int))&&(off==sz)) with
  |false=>simp[hc]at aj
  |true =>
   simp only[hc,cond_true]at aj;simp only[Bool.and_eq_true,decide_eq_true_eq]at hc;cases aj;have hr:=cZ hR hp hu;rcases pJ hr with⟨cap,eP,_,hy⟩ | ⟨h0,_⟩
   ·refine ct.put hR hd (x:=.pointer (some ⟨g.κ id,z.toNat*sz,none⟩)) ?_ (.bK _ _)
    simp[execOp,ho,hy,e2,Instr.indexAt,asIntOf,ja ht,nW hn,hc.1,kI];rfl
   ·omega
 ·rename_i id off len k z hu hm
  have e2:=lA (cZ hR hq hm);cases hc:(decide (0≤z)&&decide (z<(len:Int))&&(off==sz)) with
  |false=>simp[hc]at aj
  |true =>
   simp only[hc,cond_true]at aj;simp only[Bool.and_eq_true,decide_eq_true_eq]at hc;cases aj;have hr:=cZ hR hp hu;obtain⟨hi,⟨cap,eP,hy⟩ | ⟨h0,_⟩⟩:=EM hr
   ·refine ct.put hR hd (x:=.pointer (some ⟨g.γ id,z.toNat*sz,none⟩)) ?_ (.bO _ _ hi)
    simp[execOp,ho,hy,e2,Instr.indexAt,asIntOf,ja ht,nW hn,hc.1,kI];rfl
   ·omega
 ·cases aj
theorem WD{o:Oper}{t e:TypeId}{ts:Array TypeId}{p:Operand}{x:bB}{S':St}{C:bC}(ho:o.op=.call ⟨.builtin .len,#[p],ts⟩)(tf:ts[0]?=some t)
  (ht:P.underlying t=some (.slice e)) (hp:bX p x=true)
  (hR:R E g S a w) (hd:∀d,o.dst=some d→d<E.nt) (aj:VO.run C o.dst S (.len x)=some S'):ct P E o S S' a w:=by
 have go:∀(v:V) (n:Nat),S.ev x=some v→(∃q cap,a.eval p=.slice q n cap)→ct P E o S (S.put o.dst (.int .i64 n)) a w:=by
  intro v n hv ⟨q,cap,e⟩;refine ct.put hR hd (x:=.int .i64 n) ?_ (bj.int _ _);simp[execOp,ho,resolve,invoke,builtin,Builtin.len_,tf,e,ja ht,goInt]
 simp only[VO.run]at aj;split at aj
 ·rename_i hv
  cases aj;exact go _ 0 hv ⟨none,0,nV (cZ hR hp hv)⟩
 ·rename_i n hv
  cases aj;refine go _ 0 hv ?_;rcases rh (cZ hR hp hv) with e | ⟨a,e⟩
  ·exact⟨_,_,e⟩
  ·exact⟨_,_,e⟩
 ·rename_i n hv
  cases aj;refine go _ 0 hv ?_;obtain⟨a,cap,e⟩:=B0 (cZ hR hp hv);exact⟨_,_,e⟩
 ·rename_i tk n es hv
  cases aj;have hr:=cZ hR hp hv;refine go _ _ hv ?_;generalize a.eval p=y at hr;cases hr with
  |plain h _=>cases h with
   |nil=>exact⟨none,0,rfl⟩
   |empty _ _ a cap=>exact⟨some a,cap,rfl⟩
   |slice=>exact⟨_,_,rfl⟩
 ·rename_i i f n hv
  cases aj;have hr:=cZ hR hp hv;refine go _ _ hv ?_;rcases pJ hr with⟨cap,_,_,hy⟩ | ⟨h0,hy | ⟨a,hy⟩,_⟩
  ·exact⟨_,_,hy⟩
  ·subst h0;exact⟨_,_,hy⟩
  ·subst h0;exact⟨_,_,hy⟩
 ·rename_i i f n hv
  cases aj;have hr:=cZ hR hp hv;refine go _ _ hv ?_;obtain⟨_,⟨cap,_,hy⟩ | ⟨h0,hy | ⟨a,hy⟩⟩⟩:=EM hr
  ·exact⟨_,_,hy⟩
  ·subst h0;exact⟨_,_,hy⟩
  ·subst h0;exact⟨_,_,hy⟩
 ·cases aj
theorem WE{o:Oper}{t e:TypeId}{ts:Array TypeId}{p:Operand}{x:bB}{S':St}{C:bC}(ho:o.op=.call ⟨.builtin .cap,#[p],ts⟩)(tf:ts[0]?=some t)
  (ht:P.underlying t=some (.slice e)) (hp:bX p x=true)
  (hR:R E g S a w) (hd:∀d,o.dst=some d→d<E.nt) (aj:VO.run C o.dst S (.ud x)=some S'):ct P E o S S' a w:=by
 simp only[VO.run]at aj;split at aj
 ·rename_i hv
  cases aj;have e:=nV (cZ hR hp hv);refine ct.put hR hd (x:=.int .i64 0) ?_ (bj.int _ _);simp[execOp,ho,resolve,invoke,builtin,Builtin.cap_,tf,e,ja ht,goInt]
 ·cases aj
theorem WG{o:Oper}{t:TypeId}{ts:Array TypeId}{p:Operand}{x:bB}{S':St}{C:bC}(ho:o.op=.call ⟨.builtin .len,#[p],ts⟩)(tf:ts[0]?=some t)
  (ht:P.underlying t=some .string) (hp:bX p x=true)
  (hR:R E g S a w) (hd:∀d,o.dst=some d→d<E.nt) (aj:VO.run C o.dst S (.s6 x)=some S'):ct P E o S S' a w:=by
 simp only[VO.run]at aj;split at aj
 ·rename_i l hv
  cases aj;obtain⟨s,e,hs⟩:=Wl (cZ hR hp hv);refine ct.put hR hd (x:=.int .i64 l.length) ?_ (bj.int _ _);have:s.size=l.length:=by rw[←hs];simp
  simp[execOp,ho,resolve,invoke,builtin,Builtin.len_,tf,e,ja ht,goInt,this]
 ·cases aj
theorem WH{o:Oper}{k:Nat}{p:Operand}{x:bB}{S':St}{C:bC}(ho:o.op=.extract p k)(hp:bX p x=true)
  (hR:R E g S a w) (hd:∀d,o.dst=some d→d<E.nt) (aj:VO.run C o.dst S (.ext x k)=some S'):ct P E o S S' a w:=by
 simp only[VO.run]at aj;split at aj
 ·rename_i vs hv
  split at aj
  ·rename_i v hk
   cases aj;obtain⟨xs,e,hl,hx⟩:=aqb (cZ hR hp hv);have bG:k<xs.size:=by rw[←hl];exact eZ hk
   refine ct.put hR hd (x:=xs[k]) ?_ (hx k v xs[k] hk (by simp[bG]))
   simp[execOp,ho,e,Instr.extract,bG]
  ·cases aj
 ·cases aj
theorem WI{o:Oper}{mx:Bool}{ts:Array TypeId}{p q:Operand}{x y:bB}{S':St}{C:bC}(ho:o.op=.call ⟨.builtin (if mx then .max else .min),#[p,q],ts⟩)(hp:bX p x=true)(hq:bX q y=true)
  (hR:R E g S a w) (hd:∀d,o.dst=some d→d<E.nt) (aj:VO.run C o.dst S (.mm mx x y)=some S'):ct P E o S S' a w:=by
 simp only[VO.run]at aj;split at aj
 ·rename_i k m k' n hm hn
  cases aj;have e1:=lA (cZ hR hp hm);have e2:=lA (cZ hR hq hn);refine ct.put hR hd (x:=_) ?_ (bj.int _ _);cases mx
  ·simp[execOp,ho,e1,e2,resolve,invoke,builtin,Builtin.min_,Builtin.min2]
   rw[Int.min_def];split<;>split<;>omega
  ·simp[execOp,ho,e1,e2,resolve,invoke,builtin,Builtin.max_,Builtin.max2]
   rw[Int.max_def];split<;>split<;>omega
 ·cases aj
theorem WJ{o:Oper}{mx:Bool}{ts:Array TypeId}{p q r:Operand}{x y z:bB}{S':St}{C:bC}(ho:o.op=.call ⟨.builtin (if mx then .max else .min),#[p,q,r],ts⟩)(hp:bX p x=true)(hq:bX q y=true)(hz:bX r z=true)
  (hR:R E g S a w) (hd:∀d,o.dst=some d→d<E.nt) (aj:VO.run C o.dst S (.rR mx x y z)=some S'):ct P E o S S' a w:=by
 simp only[VO.run]at aj;split at aj
 ·rename_i k m k' n k'' l hm hn hl
  cases aj;have e1:=lA (cZ hR hp hm);have e2:=lA (cZ hR hq hn);have e3:=lA (cZ hR hz hl);refine ct.put hR hd (x:=_) ?_ (bj.int _ _);cases mx
  ·simp[execOp,ho,e1,e2,e3,resolve,invoke,builtin,Builtin.min_,Builtin.min2]
   simp only[Int.min_def];repeat' split
   all_goals omega
  ·simp[execOp,ho,e1,e2,e3,resolve,invoke,builtin,Builtin.max_,Builtin.max2]
   simp only[Int.max_def];repeat' split
   all_goals omega
 ·cases aj
theorem WK{o:Oper}{f:FuncId}{u4:Array Operand}{cap:List bB}{S':St}{C:bC}(ho:o.op=.makeFunc (.func f) #[] u4)(hc:cap.length=u4.size∧∀(i:Nat) x y,cap[i]?=some x→u4[i]?=some y→bX y x=true)
  (hR:R E g S a w) (hd:∀d,o.dst=some d→d<E.nt) (aj:VO.run C o.dst S (.pH f cap)=some S'):ct P E o S S' a w:=by
 have WL:∀{xs:List bB} {vs:List V},nS S xs=some vs→vs.length=xs.length∧∀(i:Nat) (v:V),vs[i]?=some v→∃x,xs[i]?=some x∧S.ev x=some v:=by
  intro xs;induction xs with
  |nil=>intro vs h;simp[nS]at h;subst h;simp
  |cons x xs ih =>
   intro vs h;simp only[nS]at h;split at h
   ·rename_i v Ac h1 h2
    cases h;obtain⟨p,q⟩:=ih h2;refine⟨by simp[p],fun i u hu=>?_⟩
    cases i with
    |zero=>simp at hu;subst hu;exact⟨x,by simp,h1⟩
    |succ i=>obtain⟨z,hz,he⟩:=q i u (by simpa using hu);exact⟨z,by simpa using hz,he⟩
   ·cases h
 have WM:∀{vs us:List V},xG vs=some us→us=vs∧∀v∈vs,∃i o,v=.bO i o:=by
  intro vs;induction vs with
  |nil=>intro us h;simp[xG]at h;subst h;simp
  |cons v vs ih =>
   intro us h;unfold xG at h;split at h
   ·rename_i heq;cases heq
   ·rename_i i o Ac heq
    cases heq;split at h
    ·rename_i ml hu
     cases h;obtain⟨p,q⟩:=ih hu;subst p;exact⟨rfl,fun z hz=>by
      rcases List.mem_cons.1 hz with e|e
      ·exact⟨_,_,e⟩
      ·exact q z e⟩
    ·cases h
   ·cases h
 simp only[VO.run]at aj;split at aj
 ·rename_i vs qq
  split at aj
  ·rename_i us nc
   cases aj;obtain⟨l1,g1⟩:=WL qq;obtain⟨rfl,g2⟩:=WM nc;refine ct.put hR hd (x:=.func (.func f) #[] (u4.map a.eval)) ?_ (.fn f us _ (by simp;omega) (fun j v hj=>?_))
   ·simp[execOp,ho,Instr.makeFunc]
   ·obtain⟨i,o',e⟩:=g2 v (List.mem_of_getElem? hj)
    obtain⟨x,hx,xP⟩:=g1 j v hj;have bG:j<u4.size:=by have:=eZ hx;omega
    have hr:=cZ hR (hc.2 j x u4[j] hx (by simp[bG])) xP
    subst e;obtain⟨e2,hi⟩:=wH hr;exact⟨i,o',rfl,hi,by simp[bG,e2]⟩
  ·cases aj
 ·cases aj
end
end Go.Vm
