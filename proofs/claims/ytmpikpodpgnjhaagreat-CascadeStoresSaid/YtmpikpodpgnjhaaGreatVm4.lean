/- The value machine, 4: the operations that only compute. -/
import Derived.Test.YtmpikpodpgnjhaaGreatVm3
namespace Go.Vm
set_option linter.all false
def EI:Value→V→Bool
 |.int k n,.int k' n'=>decide (k=k')&&n==n'
 |.bool b,.bool c=>b==c
 |.string s,.str l=>s.data.toList==l
 |.slice none 0 0,.bW=>true
 |.pointer none,.ft=>true
 |.nilFunc,.fu=>true
 |.map none,.fw=>true
 |_,_=>false
def sj:List Value→List V→Bool
 |[],[]=>true
 |x::xs,v::vs=>EI x v&&sj xs vs
 |_,_=>false
def EJ:Value→V→Bool
 |.agg xs,.agg cs=>sj xs.toList cs
 |x,v=>EI x v
theorem NS{X:Cx}{x:Value}{v:V}(h:EI x v=true):aY X v x∧v.cz=true∧∀d,v.ca d=false:=by
 unfold EI at h;split at h
 ·simp at h;obtain⟨rfl,rfl⟩:=h
  exact⟨.plain (.int _ _) (fun _ _ _ e=>by cases e),rfl,fun _=>rfl⟩
 ·simp at h;subst h
  exact⟨.plain (.bool _) (fun _ _ _ e=>by cases e),rfl,fun _=>rfl⟩
 ·simp at h;subst h
  exact⟨.plain (.str _) (fun _ _ _ e=>by cases e),rfl,fun _=>rfl⟩
 ·exact⟨.plain .bW (fun _ _ _ e=>by cases e),rfl,fun _=>rfl⟩
 ·exact⟨.ft,rfl,fun _=>rfl⟩
 ·exact⟨.fu,rfl,fun _=>rfl⟩
 ·exact⟨.fw,rfl,fun _=>rfl⟩
 ·cases h
theorem z8{X:Cx}:∀{xs:List Value} {vs:List V},sj xs vs=true→vs.length=xs.length ∧
  (∀(i:Nat) (v:V) (x:Value),vs[i]?=some v→xs[i]?=some x→v.cz=true∧(∀d,v.ca d=false)∧aY X v x)
 |[],[],_=>⟨rfl,by simp⟩
 |[],_::_,h=>by simp[sj]at h
 |_::_,[],h=>by simp[sj]at h
 |x::xs,v::vs,h=>by
  simp only[sj,Bool.and_eq_true]at h;obtain⟨h1,h2⟩:=h;obtain⟨hl,hr⟩:=z8 (X:=X) h2;refine⟨by simp[hl],fun i u y hu hy=>?_⟩
  cases i with
  |zero =>
   simp at hu hy;subst hu;subst hy;obtain⟨a,b,c⟩:=NS (X:=X) h1;exact⟨b,c,a⟩
  |succ j=>exact hr j u y (by simpa using hu) (by simpa using hy)
theorem NT{X:Cx}{x:Value}{v:V}(h:EJ x v=true):aY X v x:=by
 unfold EJ at h;split at h
 ·obtain⟨hl,hr⟩:=z8 (X:=X) h
  exact .agg _ _ (by simpa using hl) (fun i v x hv hx=>(hr i v x hv (by simpa using hx)).2.2)
 ·exact(NS h).1
def bJ:Operand→bj→Bool
 |.tmp t,.t s=>t==s
 |.const v,.c u=>EJ v u
 |.func f,.c (.fn g [])=>f==g
 |_,_=>false
section
variable {P:Program} {E:Entry} {g:Gh} {S:St} {a:Act} {w:World}
theorem cL(hR:R E g S a w){y:Operand}{x:bj}(ho:bJ y x=true){v:V}(hv:S.ev x=some v):aY (S.cx g w) v (a.eval y):=by
 unfold bJ at ho;split at ho
 ·simp at ho;subst ho
  obtain⟨z,hz,hr⟩:=hR.env _ v hv;simp only[Act.eval];simpa [hz] using hr
 ·simp only[St.ev,Option.some.injEq]at hv;subst hv
  exact NT ho
 ·simp at ho;subst ho
  simp only[St.ev,Option.some.injEq]at hv;subst hv;exact .fn _ [] #[] rfl (by simp)
 ·cases ho
theorem kX{X:Cx}{k:IntKind}{n:Int}{x:Value}(h:aY X (.int k n) x):x=.int k n:=by
 cases h with|plain h _=>cases h;rfl
theorem wY{X:Cx}{b:Bool}{x:Value}(h:aY X (.bool b) x):x=.bool b:=by
 cases h with|plain h _=>cases h;rfl
theorem qQ{X:Cx}{n:Nat}{x:Value}(h:aY X (.dH n) x):kj x:=by
 cases h with
 |plain h _=>cases h
 |dH h=>exact h
theorem BP{X:Cx}{n:Nat}{x:Value}(h:aY X (.e8 n) x):∃a cap,x=.slice (some a) 0 cap:=by
 cases h with
 |plain h _=>cases h
 |e8 n a cap=>exact⟨a,cap,rfl⟩
theorem nE{X:Cx}{x:Value}(h:aY X .bW x):x=.slice none 0 0:=by
 cases h with|plain h _=>cases h;rfl
theorem X4{X:Cx}{l:List UInt8}{x:Value}(h:aY X (.str l) x):∃s:ByteArray,x=.string s∧s.data.toList=l:=by
 cases h with|plain h _=>cases h;exact⟨_,rfl,rfl⟩
theorem wZ{X:Cx}{id off:Nat}{x:Value}(h:aY X (.bA id off) x):x=.pointer (some ⟨X.g.κ id,off,none⟩):=by
 cases h with
 |plain h _=>cases h
 |bA=>rfl
theorem w5{X:Cx}{i off:Nat}{x:Value}(h:aY X (.bB i off) x):x=.pointer (some ⟨X.g.γ i,off,none⟩)∧i<X.N:=by
 cases h with
 |plain h _=>cases h
 |bB _ _ h=>exact⟨rfl,h⟩
theorem EK{X:Cx}{i s n:Nat}{x:Value}(h:aY X (.df i s n) x):i<X.N∧((∃cap,n≤cap∧x=.slice (some ⟨X.g.γ i,0,none⟩) n cap)∨n=0∧kj x):=by
 cases h with
 |plain h _=>cases h
 |df _ _ _ cap h hl=>exact⟨h,.inl ⟨cap,hl,rfl⟩⟩
 |tB _ _ h hz=>exact⟨h,.inr ⟨rfl,hz⟩⟩
theorem X5{X:Cx}{id s off n:Nat}{x:Value}(h:aY X (.fH id s off n) x):∃cap,n≤cap∧x=.slice (some ⟨X.g.κ id,off*s,none⟩) n cap:=by
 cases h with
 |plain h _=>cases h
 |fH _ _ _ _ cap h=>exact⟨cap,h,rfl⟩
theorem pg{X:Cx}{id s n:Nat}{x:Value}(h:aY X (.bO id s n) x):(∃cap,n≤cap∧cap*s=X.g.cp id∧x=.slice (some ⟨X.g.κ id,0,none⟩) n cap)∨n=0∧kj x∧X.g.cp id=0:=by
 cases h with
 |plain h _=>cases h
 |bO _ _ _ cap h hc=>exact .inl ⟨cap,h,hc,rfl⟩
 |qb _ _ h hc=>exact .inr ⟨rfl,h,hc⟩
theorem oL{X:Cx}{cs:List V}{x:Value}(h:aY X (.agg cs) x) :
  ∃xs:Array Value,x=.agg xs∧cs.length=xs.size∧∀(i:Nat) (v:V) (y:Value),cs[i]?=some v→xs[i]?=some y→aY X v y:=by
 cases h with
 |plain h _=>cases h
 |agg _ xs hl hx=>exact⟨xs,rfl,hl,hx⟩
theorem X6{X:Cx}{cs:List V}{x:Value}(h:aY X (.tuple cs) x) :
  ∃xs:Array Value,x=.tuple xs∧cs.length=xs.size∧∀(i:Nat) (v:V) (y:Value),cs[i]?=some v→xs[i]?=some y→aY X v y:=by
 cases h with
 |plain h _=>cases h
 |tuple _ xs hl hx=>exact⟨xs,rfl,hl,hx⟩
theorem aY.int{X:Cx}(k:IntKind)(n:Int):aY X (.int k n) (.int k n):=.plain (.int k n) (fun _ _ _ e=>by cases e)
theorem aY.bool{X:Cx}(b:Bool):aY X (.bool b) (.bool b):=.plain (.bool b) (fun _ _ _ e=>by cases e)
structure PW(X:Cx)(cs:List V)(xs:List Value):Prop where
 len:cs.length=xs.length
 at_:∀(i:Nat) (v:V) (y:Value),cs[i]?=some v→xs[i]?=some y→aY X v y
theorem eS.yr{h:Array Obj}{m:Nat→Nat}{v:V}{x:Value}(hr:eS h m v x):x.oneCell'=true:=by
 cases hr<;>rfl
theorem Ig{X:Cx}{v:V}{x:Value}(h:aY X v x)(hc:v.cz=true):x.oneCell'=true:=by
 cases h with
 |plain h _=>exact h.yr
 |eY h=>exact h.yr
 |dH h=>rcases h with rfl | ⟨a,rfl⟩<;>rfl
 |qb _ _ h _=>rcases h with rfl | ⟨a,rfl⟩<;>rfl
 |tB _ _ _ h=>rcases h with rfl | ⟨a,rfl⟩<;>rfl
 |undef=>simp[V.cz]at hc
 |agg=>simp[V.cz]at hc
 |tuple=>simp[V.cz]at hc
 |_=>rfl
theorem eS.cells{h:Array Obj}{m:Nat→Nat}{v:V}{x:Value}(hr:eS h m v x):x.cells = #[x]:=by
 cases hr<;>rfl
theorem Aa{X:Cx}{v:V}{x:Value}(h:aY X v x)(hu:∀u∈v.cells,u.cz=true):PW X v.cells x.cells.toList:=by
 cases h with
 |undef=>exact absurd (hu .undef (by simp[V.cells])) (by simp[V.cz])
 |plain h ht =>
  have hx:=h.cells;have hv:v.cells=[v]:=by cases h<;>rfl
  rw[hv,hx];refine⟨rfl,fun i u y hu hy=>?_⟩;cases i with
  |zero=>simp at hu hy;subst hu;subst hy;exact .plain h ht
  |succ j=>simp at hu
 |dH h =>
  refine⟨by rcases h with rfl | ⟨a,rfl⟩<;>rfl,fun i u y hu hy=>?_⟩
  have hx:x.cells = #[x]:=by rcases h with rfl | ⟨a,rfl⟩<;>rfl
  rw[hx]at hy;cases i with
  |zero=>simp[V.cells]at hu hy;subst hu;subst hy;exact .dH h
  |succ j=>simp[V.cells]at hu
 |e8 n a cap=>exact⟨rfl,fun i u y hu hy=>by cases i with|zero=>(simp[V.cells,Value.cells]at hu hy;subst hu;subst hy;exact .e8 n a cap)|succ j=>simp[V.cells]at hu⟩
 |eY h =>
  rename_i n es;have hx:=h.cells;have hv:(V.eY n es).cells=[.eY n es]:=rfl;rw[hv,hx];refine⟨rfl,fun i u y hu hy=>?_⟩;cases i with
  |zero=>simp at hu hy;subst hu;subst hy;exact .eY h
  |succ j=>simp at hu
 |agg cs xs hl hx=>exact⟨by simpa [V.cells,Value.cells] using hl,fun i u y hu hy=>hx i u y hu (by simpa [Value.cells] using hy)⟩
 |tuple cs xs hl hx=>exact absurd (hu (.tuple cs) (by simp[V.cells])) (by simp[V.cz])
 |bA id off=>exact⟨rfl,fun i u y hu hy=>by cases i with|zero=>(simp[V.cells,Value.cells]at hu hy;subst hu;subst hy;exact .bA id off)|succ j=>simp[V.cells]at hu⟩
 |bO id off n cap h hc=>exact⟨rfl,fun i u y hu hy=>by cases i with|zero=>(simp[V.cells,Value.cells]at hu hy;subst hu;subst hy;exact .bO id off n cap h hc)|succ j=>simp[V.cells]at hu⟩
 |bB i off h=>exact⟨rfl,fun i u y hu hy=>by cases i with|zero=>(simp[V.cells,Value.cells]at hu hy;subst hu;subst hy;exact .bB _ off h)|succ j=>simp[V.cells]at hu⟩
 |fH id s off n cap h=>exact⟨rfl,fun i u y hu hy=>by cases i with|zero=>(simp[V.cells,Value.cells]at hu hy;subst hu;subst hy;exact .fH id s off n cap h)|succ j=>simp[V.cells]at hu⟩
 |df i s n cap h hl=>exact⟨rfl,fun i u y hu hy=>by cases i with|zero=>(simp[V.cells,Value.cells]at hu hy;subst hu;subst hy;exact .df _ s n cap h hl)|succ j=>simp[V.cells]at hu⟩
 |qb id s h hc =>
  refine⟨by rcases h with rfl | ⟨a,rfl⟩<;>rfl,fun i u y hu hy=>?_⟩
  have hx:x.cells = #[x]:=by rcases h with rfl | ⟨a,rfl⟩<;>rfl
  rw[hx]at hy;cases i with
  |zero=>simp[V.cells]at hu hy;subst hu;subst hy;exact .qb id s h hc
  |succ j=>simp[V.cells]at hu
 |tB k s h hz =>
  refine⟨by rcases hz with rfl | ⟨a,rfl⟩<;>rfl,fun i u y hu hy=>?_⟩
  have hx:x.cells = #[x]:=by rcases hz with rfl | ⟨a,rfl⟩<;>rfl
  rw[hx]at hy;cases i with
  |zero=>simp[V.cells]at hu hy;subst hu;subst hy;exact .tB k s h hz
  |succ j=>simp[V.cells]at hu
 |ft=>exact⟨rfl,fun i u y hu hy=>by cases i with|zero=>(simp[V.cells,Value.cells]at hu hy;subst hu;subst hy;exact .ft)|succ j=>simp[V.cells]at hu⟩
 |eF row off b o ys hb hc hv hp hm=>exact⟨rfl,fun i u y hu hy=>by cases i with|zero=>(simp[V.cells,Value.cells]at hu hy;subst hu;subst hy;exact .eF row off b o ys hb hc hv hp hm)|succ j=>simp[V.cells]at hu⟩
 |fn f cap xs hl hx=>exact⟨rfl,fun i u y hu hy=>by cases i with|zero=>(simp[V.cells,Value.cells]at hu hy;subst hu;subst hy;exact .fn f cap xs hl hx)|succ j=>simp[V.cells]at hu⟩
 |fu=>exact⟨rfl,fun i u y hu hy=>by cases i with|zero=>(simp[V.cells,Value.cells]at hu hy;subst hu;subst hy;exact .fu)|succ j=>simp[V.cells]at hu⟩
 |map i h=>exact⟨rfl,fun i u y hu hy=>by cases i with|zero=>(simp[V.cells,Value.cells]at hu hy;subst hu;subst hy;exact .map _ h)|succ j=>simp[V.cells]at hu⟩
 |fw=>exact⟨rfl,fun i u y hu hy=>by cases i with|zero=>(simp[V.cells,Value.cells]at hu hy;subst hu;subst hy;exact .fw)|succ j=>simp[V.cells]at hu⟩
theorem Ih{X:Cx}{v:V}{x:Value}(h:aY X v x):aY X v.jF x:=by
 cases h with
 |eY h=>exact .plain h (fun _ _ _ e=>by cases e)
 |dH h=>exact .dH h
 |e8 n a cap=>exact .e8 n a cap
 |plain h t=>cases h<;>exact .plain (by first|exact .int _ _|exact .bool _|exact .str _|exact .bW|exact .nil _ _|exact .empty _ _ _ _|(rename_i a b c d e f g i;exact .slice _ _ _ _ _ _ _ (by assumption) (by assumption) (by assumption) (by assumption) (by assumption) (by assumption) (by assumption))) t
 |undef=>exact .undef
 |bA=>exact .bA _ _
 |bO _ _ _ _ h hc=>exact .bO _ _ _ _ h hc
 |bB _ _ h=>exact .bB _ _ h
 |qb _ _ h hc=>exact .qb _ _ h hc
 |fH _ _ _ _ _ h=>exact .fH _ _ _ _ _ h
 |df _ _ _ _ h hl=>exact .df _ _ _ _ h hl
 |tB _ _ h hz=>exact .tB _ _ h hz
 |ft=>exact .ft
 |eF row off b o ys hb hc hv hp hm=>exact .eF row off b o ys hb hc hv hp hm
 |fn f cap xs hl hx=>exact .fn f cap xs hl hx
 |fu=>exact .fu
 |map _ h=>exact .map _ h
 |fw=>exact .fw
 |agg cs xs hl hx=>exact .agg cs xs hl hx
 |tuple cs xs hl hx=>exact .tuple cs xs hl hx
theorem NU{X:Cx}{v:V}{x:Value}(h:aY X v x):aY X v.kh x:=by
 have key:(∃cs,v=.agg cs)∨v.kh=v.jF:=by
  cases v<;>first|(left;exact⟨_,rfl⟩)|(right;rfl)
 rcases key with⟨cs,rfl⟩ | e
 ·obtain⟨xs,e,hl,hx⟩:=oL h
  subst e;refine .agg _ _ (by simpa using hl) (fun i u y hu hy=>?_)
  rw[List.getElem?_map]at hu;cases hc:cs[i]? with
  |none=>simp[hc]at hu
  |some z =>
   simp[hc]at hu;subst hu;exact Ih (hx i z y hc hy)
 ·rw[e];exact Ih h
theorem X7{X:Cx}{r:iQ}{v:V}{x:Value}(h:aY X v x):aY X (yk r v) x:=by
 cases r
 ·exact h
 ·exact NU h
 ·exact h
def b0(P:Program)(E:Entry)(o:Oper)(S:St)(S':St)(a:Act)(w:World):Prop :=
 ∀(K:Act→World→Prop) (Q:Exit→Act→World→Prop),(∀g' a' w',R E g' S' a' w'→K a' w')→o.wp P a w K Q
theorem b0.value{o:Oper}{S S':St}{x:Value}{g':Gh}{w':World}(ah:(execOp a.eval o).run P w=.ok (.value x) w')(hR:R E g' S' (a.put o.dst x) w') :
  b0 P E o S S' a w:=fun K Q hK=>by
 unfold Oper.wp;rw[ah,Oper.upon_value];exact hK _ _ _ hR
theorem b0.skip{o:Oper}{S S':St}{g':Gh}{w':World}(ah:(execOp a.eval o).run P w=.ok .skip w')(hd:o.dst=none)(hR:R E g' S' a w') :
  b0 P E o S S' a w:=fun K Q hK=>by
 unfold Oper.wp;rw[ah,Oper.upon_skip,hd];exact hK _ _ _ hR
theorem b0.put{o:Oper}{v:V}{x:Value}(hR:R E g S a w)(hd:∀d,o.dst=some d→d<E.nt)
  (ah:(execOp a.eval o).run P w=.ok (.value x) w) (hx:aY (S.cx g w) v x):b0 P E o S (S.put o.dst v) a w :=
 .value ah (hR.put hd hx)
theorem NV{o:Oper}{y:Operand}{x:bj}{S':St}{C:bm}(ho:o.op=.move y∨o.op=.assign y)(hx:bJ y x=true)(hR:R E g S a w)
  (hd:∀d,o.dst=some d→d<E.nt) (ah:VO.run C o.dst S (.mv x)=some S'):b0 P E o S S' a w:=by
 simp only[VO.run]at ah;split at ah
 ·rename_i v hv
  cases ah;refine b0.put hR hd (x:=a.eval y) ?_ (cL hR hx hv);rcases ho with ho|ho<;>simp[execOp,ho]
 ·cases ah
theorem X8{o:Oper}{c p q:Operand}{c' p' q':bj}{S':St}{C:bm}(ho:o.op=.pick c p q)(hc:bJ c c'=true)(hp:bJ p p'=true)(hq:bJ q q'=true)
  (hR:R E g S a w) (hd:∀d,o.dst=some d→d<E.nt) (ah:VO.run C o.dst S (.pick c' p' q')=some S'):b0 P E o S S' a w:=by
 simp only[VO.run]at ah;split at ah
 ·rename_i t ht
  split at ah
  ·rename_i v hv
   cases ah;have h1:=wY (cL hR hc ht);refine b0.put hR hd (x:=if t then a.eval p else a.eval q) ?_ ?_
   ·simp[execOp,ho,h1,asBool]
   ·cases t
    ·exact cL hR hq hv
    ·exact cL hR hp hv
  ·cases ah
 ·cases ah
theorem X9(op:BinOp)(t:TypeId)(x y:Operand)(k k':IntKind)(m n:Int):(eqGuard op t x y (.int k m) (.int k' n)).run P w=.ok () w:=by
 unfold eqGuard;split<;>simp
theorem Ya(op:BinOp)(t:TypeId)(x y:Operand)(m n:Bool):(eqGuard op t x y (.bool m) (.bool n)).run P w=.ok () w:=by
 unfold eqGuard;split<;>simp
theorem iE{t:TypeId}{d:TypeDesc}(h:P.underlying t=some d):(underlying t).run P w=.ok d w:=by
 unfold underlying;simp[h]
omit E g S a in
theorem Yb{op:BinOp}{t:TypeId}{k:IntKind}{m n:Int}{v:V}(h:BN op k m n=some v) :
  ∃x,(binOp op t (.int k m) (.int k n)).run P w=.ok x w∧∀X:Cx,aY X v x:=by
 unfold BN at h;split at h
 all_goals (try (cases h;done))
 all_goals (try (split at h;· cases h))
 all_goals (cases h)
 all_goals first
  |(refine⟨_,?_,fun X=>aY.int _ _⟩;simp[binOp,Op.intArith];done)
  |(refine⟨_,?_,fun X=>aY.int _ _⟩;simp[binOp,Op.intDiv, *];done)
  |(refine⟨_,?_,fun X=>aY.int _ _⟩;simp[binOp,Op.shift, *];done)
  |(refine⟨_,?_,fun X=>aY.bool _⟩;simp[binOp,Op.intCmp];done)
theorem Yc{o:Oper}{op:BinOp}{t t':TypeId}{p q:Operand}{x y:bj}{S':St}{C:bm}(ho:o.op=.binOp op t p q t')(hp:bJ p x=true)(hq:bJ q y=true)
  (hR:R E g S a w) (hd:∀d,o.dst=some d→d<E.nt) {k:IntKind} {m:Int} {k':IntKind} {n:Int} (h1:S.ev x=some (.int k m)) (h2:S.ev y=some (.int k' n))
  (ah:VO.run C o.dst S (.bin op x y)=some S'):b0 P E o S S' a w:=by
 simp only[VO.run,h1,h2,V.bin]at ah;by_cases hk:k=k'
 ·subst hk
  simp only[decide_true,cond_true]at ah;split at ah
  ·rename_i v hv
   cases ah;have e1:=kX (cL hR hp h1);have e2:=kX (cL hR hq h2);obtain⟨z,hz,hx⟩:=Yb (P:=P) (w:=w) (t:=t) hv;refine b0.put hR hd (x:=z) ?_ (hx _);simp[execOp,ho,e1,e2,X9,hz]
  ·cases ah
 ·simp[hk]at ah
theorem Yd{t:TypeId}(ht:P.underlying t=some .bool)(m n:Bool):(Op.equal t (.bool m) (.bool n)).run P w=.ok (m==n) w:=by
 unfold Op.equal;rw[show Op.maxDepth=9999+1 from rfl,Op.equalIn];simp[iE ht]
theorem Ye{o:Oper}{neg:Bool}{t t':TypeId}{p q:Operand}{x y:bj}{S':St}{C:bm}(ho:o.op=.binOp (if neg then .neq else .eql) t p q t')(ht:P.underlying t=some .bool)(hp:bJ p x=true)(hq:bJ q y=true)
  (hR:R E g S a w) (hd:∀d,o.dst=some d→d<E.nt) (ah:VO.run C o.dst S (.beq neg x y)=some S'):b0 P E o S S' a w:=by
 simp only[VO.run]at ah;split at ah
 ·rename_i m n h1 h2
  cases ah;have e1:=wY (cL hR hp h1);have e2:=wY (cL hR hq h2);refine b0.put hR hd (x:=.bool (bif neg then m != n else m==n)) ?_ (aY.bool _);cases neg<;>simp[execOp,ho,e1,e2,Ya,binOp,Yd ht];cases m<;>cases n<;>rfl
 ·cases ah
theorem Yf{o:Oper}{op:BinOp}{t t':TypeId}{p q:Operand}{x y:bj}{S':St}{C:bm}(ho:o.op=.binOp op t p q t')(hp:bJ p x=true)(hq:bJ q y=true)
  (hR:R E g S a w) (hd:∀d,o.dst=some d→d<E.nt) (ah:VO.run C o.dst S (.bin op x y)=some S'):b0 P E o S S' a w:=by
 have yt:=ah;simp only[VO.run]at ah;split at ah
 ·rename_i u v h1 h2
  split at ah
  ·rename_i z hz
   unfold V.bin at hz;split at hz
   ·exact Yc ho hp hq hR hd h1 h2 yt
   ·cases hz
  ·cases ah
 ·cases ah
theorem Yg{o:Oper}{op:UnOp}{t:TypeId}{p:Operand}{x:bj}{S':St}{C:bm}(ho:o.op=.unOp op t p)(hp:bJ p x=true)
  (hR:R E g S a w) (hd:∀d,o.dst=some d→d<E.nt) (ah:VO.run C o.dst S (.un op x)=some S'):b0 P E o S S' a w:=by
 simp only[VO.run]at ah;split at ah
 ·rename_i u hu
  have hr:=cL hR hp hu;split at ah
  ·rename_i v hv
   cases ah;unfold V.un at hv;split at hv
   ·have e:=wY hr
    split at hv<;>cases hv;refine b0.put hR hd (x:=_) ?_ (aY.bool _);simp[execOp,ho,e,Op.unary]
    try rfl
   ·have e:=kX hr
    split at hv<;>cases hv;refine b0.put hR hd (x:=_) ?_ (aY.int _ _);simp[execOp,ho,e,Op.unary,Op.intArith]
    try rfl
   ·cases hv
  ·cases ah
 ·cases ah
theorem Yh{o:Oper}{s t:TypeId}{k:IntKind}{d:TypeDesc}{p:Operand}{x:bj}{S':St}{C:bm}(ho:o.op=.convert s t p)(hs:P.underlying s=some d)(ht:P.underlying t=some (.int k))(hp:bJ p x=true)
  (hR:R E g S a w) (hd:∀d,o.dst=some d→d<E.nt) (ah:VO.run C o.dst S (.conv k x)=some S'):b0 P E o S S' a w:=by
 simp only[VO.run]at ah;split at ah
 ·rename_i j n hn
  cases ah;have e:=kX (cL hR hp hn);refine b0.put hR hd (x:=_) ?_ (aY.int _ _);simp[execOp,ho,e,convert,iE hs,iE ht,Conv.intToInt]
  try rfl
 ·cases ah
theorem Yi{o:Oper}{p:Operand}{x:bj}{S':St}{C:bm}(ho:o.op=.nilCheck p)(hp:bJ p x=true)
  (hR:R E g S a w) (hd:∀d,o.dst=some d→d<E.nt) (ah:VO.run C o.dst S (.rY x)=some S'):b0 P E o S S' a w:=by
 simp only[VO.run]at ah;split at ah
 ·rename_i i f hv
  cases ah;have hr:=cL hR hp hv;have e:=wZ hr;refine b0.put hR hd (x:=_) ?_ hr;simp[execOp,ho,e]
 ·rename_i i f hv
  cases ah;have hr:=cL hR hp hv;obtain⟨e,_⟩:=w5 hr;refine b0.put hR hd (x:=_) ?_ hr;simp[execOp,ho,e]
 ·rename_i r f hv
  cases ah;have hr:=cL hR hp hv;obtain⟨b,o',e⟩:∃b o',a.eval p=.pointer (some ⟨b,o',none⟩):=by
   generalize a.eval p=z at hr;cases hr with
   |plain h _=>cases h
   |eF _ _ b o'=>exact⟨b,_,rfl⟩
  refine b0.put hR hd (x:=_) ?_ hr;simp[execOp,ho,e]
 ·cases ah
theorem NW{X:Cx}{v:V}{x:Value}(h:aY X v x)(n:Nat) :
  (∀i o,v=.bA i o→∃b f,x=.pointer (some ⟨b,f,none⟩)∧aY X (.bA i (o+n)) (.pointer (some ⟨b,f+n,none⟩))) ∧
  (∀i o,v=.bB i o→∃b f,x=.pointer (some ⟨b,f,none⟩)∧aY X (.bB i (o+n)) (.pointer (some ⟨b,f+n,none⟩))) ∧
  (∀r o,v=.eF r o→∃b f,x=.pointer (some ⟨b,f,none⟩)∧aY X (.eF r (o+n)) (.pointer (some ⟨b,f+n,none⟩))):=by
 refine⟨fun i o e=>?_,fun i o e=>?_,fun r o e=>?_⟩
 ·subst e;rw[wZ h];exact⟨_,_,rfl,.bA _ _⟩
 ·subst e;obtain⟨e,hi⟩:=w5 h;rw[e];exact⟨_,_,rfl,.bB _ _ hi⟩
 ·subst e
  cases h with
  |plain h _=>cases h
  |eF _ _ b o' ys hb hc hv hp hm=>exact⟨_,_,rfl,by rw[Nat.add_assoc];exact .eF r (o+n) b o' ys hb hc hv hp hm⟩
theorem km(b f n:Nat):(⟨b,f,none⟩:Addr).add n=⟨b,f+n,none⟩:=by
 unfold Addr.add;split
 ·simp[*]
 ·rfl
theorem nF{t:TypeId}{n:Nat}(h:(P.info? t).map (·.size)=some n):(sizeOf t).run P w=.ok n w:=by
 cases hi:P.info? t with
 |none=>simp[hi]at h
 |some i=>simp[hi]at h;simp[sizeOf,typeInfo,hi,h]
theorem Yj{o:Oper}{s:TypeId}{fi off:Nat}{fs:Array Field}{f:Field}{n:Nat}{p:Operand}{x:bj}{S':St}{C:bm}(ho:o.op=.fieldAddr s p fi)(hs:P.underlying s=some (.struct fs))
  (hf:fs[fi]?=some f) (hn:(P.info? f.type).map (·.size)=some n) (h0:n≠0) (mS:f.offset=off) (hp:bJ p x=true)
  (hR:R E g S a w) (hd:∀d,o.dst=some d→d<E.nt) (ah:VO.run C o.dst S (.r0 off x)=some S'):b0 P E o S S' a w:=by
 simp only[VO.run]at ah;split at ah
 all_goals first|(cases ah;done)|skip
 all_goals
  rename_i hv;cases ah;obtain⟨m1,m2,m3⟩:=NW (cL hR hp hv) off
 ·obtain⟨b,q,e,hr⟩:=m1 _ _ rfl
  refine b0.put hR hd (x:=_) ?_ hr;simp[execOp,ho,e,Instr.fieldAt,iE hs,hf,Instr.sureAddr,fieldPlace,nF hn,h0,mS,km]
 ·obtain⟨b,q,e,hr⟩:=m2 _ _ rfl
  refine b0.put hR hd (x:=_) ?_ hr;simp[execOp,ho,e,Instr.fieldAt,iE hs,hf,Instr.sureAddr,fieldPlace,nF hn,h0,mS,km]
 ·obtain⟨b,q,e,hr⟩:=m3 _ _ rfl
  refine b0.put hR hd (x:=_) ?_ hr;simp[execOp,ho,e,Instr.fieldAt,iE hs,hf,Instr.sureAddr,fieldPlace,nF hn,h0,mS,km]
theorem Yk{o:Oper}{t:TypeId}{len:Nat}{el:TypeId}{sz:Nat}{p q:Operand}{x i:bj}{S':St}{C:bm}(ho:o.op=.indexAddr t p q)(ht:P.underlying t=some (.array len el))
  (hn:(P.info? el).map (·.size)=some sz) (hp:bJ p x=true) (hq:bJ q i=true)
  (hR:R E g S a w) (hd:∀d,o.dst=some d→d<E.nt) (ah:VO.run C o.dst S (.nA (some len) sz x i)=some S'):b0 P E o S S' a w:=by
 simp only[VO.run]at ah;split at ah
 ·rename_i u k m hu hm
  have e2:=kX (cL hR hq hm);cases hc:(decide (0≤m)&&decide (m<(len:Int))) with
  |false=>simp[hc]at ah
  |true =>
   simp only[hc,cond_true]at ah;simp only[Bool.and_eq_true,decide_eq_true_eq]at hc;have hr:=cL hR hp hu;obtain⟨m1,m2,m3⟩:=NW hr (m.toNat*sz);split at ah<;>first|(cases ah;done)|skip
   all_goals cases ah
   ·obtain⟨b,f,e,hx⟩:=m1 _ _ rfl
    refine b0.put hR hd (x:=_) ?_ hx;simp[execOp,ho,e,e2,Instr.indexAt,asIntOf,iE ht,Instr.sureAddr,nF hn,hc,km]
   ·obtain⟨b,f,e,hx⟩:=m2 _ _ rfl
    refine b0.put hR hd (x:=_) ?_ hx;simp[execOp,ho,e,e2,Instr.indexAt,asIntOf,iE ht,Instr.sureAddr,nF hn,hc,km]
   ·obtain⟨b,f,e,hx⟩:=m3 _ _ rfl
    refine b0.put hR hd (x:=_) ?_ hx;simp[execOp,ho,e,e2,Instr.indexAt,asIntOf,iE ht,Instr.sureAddr,nF hn,hc,km]
 ·cases ah
theorem eC{α:Type}{l:List α}{i:Nat}{x:α}(h:l[i]?=some x):i<l.length:=by
 rcases Nat.lt_or_ge i l.length with h' | h'
 ·exact h'
 ·simp[List.getElem?_eq_none h']at h
theorem Yl{o:Oper}{t:TypeId}{el:TypeId}{sz:Nat}{p q:Operand}{x i:bj}{S':St}{C:bm}(ho:o.op=.indexAddr t p q)(ht:P.underlying t=some (.slice el))
  (hn:(P.info? el).map (·.size)=some sz) (hp:bJ p x=true) (hq:bJ q i=true)
  (hR:R E g S a w) (hd:∀d,o.dst=some d→d<E.nt) (ah:VO.run C o.dst S (.nA none sz x i)=some S'):b0 P E o S S' a w:=by
 simp only[VO.run]at ah;split at ah
 ·rename_i tk m es k z hu hm
  have e2:=kX (cL hR hq hm);cases hc:(decide (0≤z)&&(m==sz)) with
  |false=>simp[hc]at ah
  |true =>
   simp only[hc,cond_true]at ah;simp only[Bool.and_eq_true,decide_eq_true_eq,beq_iff_eq]at hc;obtain⟨hz,rfl⟩:=hc;split at ah
   ·rename_i row ia
    cases ah;have br:=eC ia;have hr:=cL hR hp hu;obtain⟨b,off,cap,ys,e,hb,eu,h1,h2,h3,h3p,h4⟩:∃(b off cap:Nat) (ys:Nat→Nat→Value),a.eval p=.slice (some ⟨b,off,none⟩) es.length cap∧b<w.heap.size∧es.length≤cap ∧
      (∀(i:Nat) (row:List V),es[i]?=some row→row.length=m) ∧
      (∀(i:Nat) (row:List V) (j:Nat) (v:V),es[i]?=some row→row[j]?=some v→cellAt w.heap b (off+i*m+j)=some (ys i j)) ∧
      (∀(i:Nat) (row:List V) (j:Nat) (v:V),es[i]?=some row→row[j]?=some v→eS w.heap g.m v (ys i j)) ∧
      (∀(i:Nat) (row:List V) (j:Nat) (v:V),es[i]?=some row→row[j]?=some v→v.plain=true)∧off+es.length*m≤g.m b:=by
     generalize a.eval p=y at hr;cases hr with
     |plain h _ =>
      cases h with
      |nil=>simp at br
      |empty=>simp at br
      |slice _ _ _ b off cap ys hb eu ia hc hv hp hm=>exact⟨b,off,cap,ys,rfl,hb,eu,ia,hc,hv,hp,hm⟩
    refine b0.put hR hd (x:=.pointer (some ⟨b,off+z.toNat*m,none⟩)) ?_ ?_
    ·have yu:z<(es.length:Int):=by omega
     simp[execOp,ho,e,e2,Instr.indexAt,asIntOf,iE ht,nF hn,hz,yu,km]
    ·refine .eF row 0 b (off+z.toNat*m) (ys z.toNat) hb (fun j v hj=>h2 _ row j v ia hj) (fun j v hj=>h3 _ row j v ia hj) (fun j v hj=>h3p _ row j v ia hj) ?_
     have:=h1 _ row ia;have h5:z.toNat*m+m≤es.length*m:=by
      have:=Nat.mul_le_mul_right m br;rw[Nat.succ_mul]at this;exact this
     show off+z.toNat*m+row.length≤g.m b;omega
   ·cases ah
 ·rename_i id off len k z hu hm
  have e2:=kX (cL hR hq hm);cases hc:(decide (0≤z)&&decide (z<(len:Int))&&(off==sz)) with
  |false=>simp[hc]at ah
  |true =>
   simp only[hc,cond_true]at ah;simp only[Bool.and_eq_true,decide_eq_true_eq]at hc;cases ah;have hr:=cL hR hp hu;rcases pg hr with⟨cap,eu,_,hy⟩ | ⟨h0,_⟩
   ·refine b0.put hR hd (x:=.pointer (some ⟨g.κ id,z.toNat*sz,none⟩)) ?_ (.bA _ _)
    simp[execOp,ho,hy,e2,Instr.indexAt,asIntOf,iE ht,nF hn,hc.1,km];rfl
   ·omega
 ·rename_i id off len k z hu hm
  have e2:=kX (cL hR hq hm);cases hc:(decide (0≤z)&&decide (z<(len:Int))&&(off==sz)) with
  |false=>simp[hc]at ah
  |true =>
   simp only[hc,cond_true]at ah;simp only[Bool.and_eq_true,decide_eq_true_eq]at hc;cases ah;have hr:=cL hR hp hu;obtain⟨hi,⟨cap,eu,hy⟩ | ⟨h0,_⟩⟩:=EK hr
   ·refine b0.put hR hd (x:=.pointer (some ⟨g.γ id,z.toNat*sz,none⟩)) ?_ (.bB _ _ hi)
    simp[execOp,ho,hy,e2,Instr.indexAt,asIntOf,iE ht,nF hn,hc.1,km];rfl
   ·omega
 ·cases ah
theorem Ym{o:Oper}{t e:TypeId}{ts:Array TypeId}{p:Operand}{x:bj}{S':St}{C:bm}(ho:o.op=.call ⟨.builtin .len,#[p],ts⟩)(uI:ts[0]?=some t)
  (ht:P.underlying t=some (.slice e)) (hp:bJ p x=true)
  (hR:R E g S a w) (hd:∀d,o.dst=some d→d<E.nt) (ah:VO.run C o.dst S (.len x)=some S'):b0 P E o S S' a w:=by
 have go:∀(v:V) (n:Nat),S.ev x=some v→(∃q cap,a.eval p=.slice q n cap)→b0 P E o S (S.put o.dst (.int .i64 n)) a w:=by
  intro v n hv ⟨q,cap,e⟩;refine b0.put hR hd (x:=.int .i64 n) ?_ (aY.int _ _);simp[execOp,ho,resolve,invoke,builtin,Builtin.len_,uI,e,iE ht,goInt]
 simp only[VO.run]at ah;split at ah
 ·rename_i hv
  cases ah;exact go _ 0 hv ⟨none,0,nE (cL hR hp hv)⟩
 ·rename_i n hv
  cases ah;refine go _ 0 hv ?_;rcases qQ (cL hR hp hv) with e | ⟨a,e⟩
  ·exact⟨_,_,e⟩
  ·exact⟨_,_,e⟩
 ·rename_i n hv
  cases ah;refine go _ 0 hv ?_;obtain⟨a,cap,e⟩:=BP (cL hR hp hv);exact⟨_,_,e⟩
 ·rename_i tk n es hv
  cases ah;have hr:=cL hR hp hv;refine go _ _ hv ?_;generalize a.eval p=y at hr;cases hr with
  |plain h _=>cases h with
   |nil=>exact⟨none,0,rfl⟩
   |empty _ _ a cap=>exact⟨some a,cap,rfl⟩
   |slice=>exact⟨_,_,rfl⟩
 ·rename_i i f n hv
  cases ah;have hr:=cL hR hp hv;refine go _ _ hv ?_;rcases pg hr with⟨cap,_,_,hy⟩ | ⟨h0,hy | ⟨a,hy⟩,_⟩
  ·exact⟨_,_,hy⟩
  ·subst h0;exact⟨_,_,hy⟩
  ·subst h0;exact⟨_,_,hy⟩
 ·rename_i i f n hv
  cases ah;have hr:=cL hR hp hv;refine go _ _ hv ?_;obtain⟨_,⟨cap,_,hy⟩ | ⟨h0,hy | ⟨a,hy⟩⟩⟩:=EK hr
  ·exact⟨_,_,hy⟩
  ·subst h0;exact⟨_,_,hy⟩
  ·subst h0;exact⟨_,_,hy⟩
 ·cases ah
theorem Yn{o:Oper}{t e:TypeId}{ts:Array TypeId}{p:Operand}{x:bj}{S':St}{C:bm}(ho:o.op=.call ⟨.builtin .cap,#[p],ts⟩)(uI:ts[0]?=some t)
  (ht:P.underlying t=some (.slice e)) (hp:bJ p x=true)
  (hR:R E g S a w) (hd:∀d,o.dst=some d→d<E.nt) (ah:VO.run C o.dst S (.tq x)=some S'):b0 P E o S S' a w:=by
 simp only[VO.run]at ah;split at ah
 ·rename_i hv
  cases ah;have e:=nE (cL hR hp hv);refine b0.put hR hd (x:=.int .i64 0) ?_ (aY.int _ _);simp[execOp,ho,resolve,invoke,builtin,Builtin.cap_,uI,e,iE ht,goInt]
 ·cases ah
theorem Yo{o:Oper}{t:TypeId}{ts:Array TypeId}{p:Operand}{x:bj}{S':St}{C:bm}(ho:o.op=.call ⟨.builtin .len,#[p],ts⟩)(uI:ts[0]?=some t)
  (ht:P.underlying t=some .string) (hp:bJ p x=true)
  (hR:R E g S a w) (hd:∀d,o.dst=some d→d<E.nt) (ah:VO.run C o.dst S (.r7 x)=some S'):b0 P E o S S' a w:=by
 simp only[VO.run]at ah;split at ah
 ·rename_i l hv
  cases ah;obtain⟨s,e,hs⟩:=X4 (cL hR hp hv);refine b0.put hR hd (x:=.int .i64 l.length) ?_ (aY.int _ _);have:s.size=l.length:=by rw[←hs];simp
  simp[execOp,ho,resolve,invoke,builtin,Builtin.len_,uI,e,iE ht,goInt,this]
 ·cases ah
theorem Yp{o:Oper}{k:Nat}{p:Operand}{x:bj}{S':St}{C:bm}(ho:o.op=.extract p k)(hp:bJ p x=true)
  (hR:R E g S a w) (hd:∀d,o.dst=some d→d<E.nt) (ah:VO.run C o.dst S (.ext x k)=some S'):b0 P E o S S' a w:=by
 simp only[VO.run]at ah;split at ah
 ·rename_i vs hv
  split at ah
  ·rename_i v hk
   cases ah;obtain⟨xs,e,hl,hx⟩:=X6 (cL hR hp hv);have br:k<xs.size:=by rw[←hl];exact eC hk
   refine b0.put hR hd (x:=xs[k]) ?_ (hx k v xs[k] hk (by simp[br]))
   simp[execOp,ho,e,Instr.extract,br]
  ·cases ah
 ·cases ah
theorem Yq{o:Oper}{mx:Bool}{ts:Array TypeId}{p q:Operand}{x y:bj}{S':St}{C:bm}(ho:o.op=.call ⟨.builtin (if mx then .max else .min),#[p,q],ts⟩)(hp:bJ p x=true)(hq:bJ q y=true)
  (hR:R E g S a w) (hd:∀d,o.dst=some d→d<E.nt) (ah:VO.run C o.dst S (.mm mx x y)=some S'):b0 P E o S S' a w:=by
 simp only[VO.run]at ah;split at ah
 ·rename_i k m k' n hm hn
  cases ah;have e1:=kX (cL hR hp hm);have e2:=kX (cL hR hq hn);refine b0.put hR hd (x:=_) ?_ (aY.int _ _);cases mx
  ·simp[execOp,ho,e1,e2,resolve,invoke,builtin,Builtin.min_,Builtin.min2]
   rw[Int.min_def];split<;>split<;>omega
  ·simp[execOp,ho,e1,e2,resolve,invoke,builtin,Builtin.max_,Builtin.max2]
   rw[Int.max_def];split<;>split<;>omega
 ·cases ah
theorem Yr{o:Oper}{mx:Bool}{ts:Array TypeId}{p q r:Operand}{x y z:bj}{S':St}{C:bm}(ho:o.op=.call ⟨.builtin (if mx then .max else .min),#[p,q,r],ts⟩)(hp:bJ p x=true)(hq:bJ q y=true)(hz:bJ r z=true)
  (hR:R E g S a w) (hd:∀d,o.dst=some d→d<E.nt) (ah:VO.run C o.dst S (.r9 mx x y z)=some S'):b0 P E o S S' a w:=by
 simp only[VO.run]at ah;split at ah
 ·rename_i k m k' n k'' l hm hn hl
  cases ah;have e1:=kX (cL hR hp hm);have e2:=kX (cL hR hq hn);have e3:=kX (cL hR hz hl);refine b0.put hR hd (x:=_) ?_ (aY.int _ _);cases mx
  ·simp[execOp,ho,e1,e2,e3,resolve,invoke,builtin,Builtin.min_,Builtin.min2]
   simp only[Int.min_def];repeat' split
   all_goals omega
  ·simp[execOp,ho,e1,e2,e3,resolve,invoke,builtin,Builtin.max_,Builtin.max2]
   simp only[Int.max_def];repeat' split
   all_goals omega
 ·cases ah
theorem Ys{o:Oper}{f:FuncId}{vx:Array Operand}{cap:List bj}{S':St}{C:bm}(ho:o.op=.makeFunc (.func f) #[] vx)(hc:cap.length=vx.size∧∀(i:Nat) x y,cap[i]?=some x→vx[i]?=some y→bJ y x=true)
  (hR:R E g S a w) (hd:∀d,o.dst=some d→d<E.nt) (ah:VO.run C o.dst S (.tw f cap)=some S'):b0 P E o S S' a w:=by
 have Yt:∀{xs:List bj} {vs:List V},nC S xs=some vs→vs.length=xs.length∧∀(i:Nat) (v:V),vs[i]?=some v→∃x,xs[i]?=some x∧S.ev x=some v:=by
  intro xs;induction xs with
  |nil=>intro vs h;simp[nC]at h;subst h;simp
  |cons x xs ih =>
   intro vs h;simp only[nC]at h;split at h
   ·rename_i v Ab h1 h2
    cases h;obtain⟨p,q⟩:=ih h2;refine⟨by simp[p],fun i u hu=>?_⟩
    cases i with
    |zero=>simp at hu;subst hu;exact⟨x,by simp,h1⟩
    |succ i=>obtain⟨z,hz,he⟩:=q i u (by simpa using hu);exact⟨z,by simpa using hz,he⟩
   ·cases h
 have Yu:∀{vs us:List V},yl vs=some us→us=vs∧∀v∈vs,∃i o,v=.bB i o:=by
  intro vs;induction vs with
  |nil=>intro us h;simp[yl]at h;subst h;simp
  |cons v vs ih =>
   intro us h;unfold yl at h;split at h
   ·rename_i heq;cases heq
   ·rename_i i o Ab heq
    cases heq;split at h
    ·rename_i lX hu
     cases h;obtain⟨p,q⟩:=ih hu;subst p;exact⟨rfl,fun z hz=>by
      rcases List.mem_cons.1 hz with e|e
      ·exact⟨_,_,e⟩
      ·exact q z e⟩
    ·cases h
   ·cases h
 simp only[VO.run]at ah;split at ah
 ·rename_i vs qd
  split at ah
  ·rename_i us mT
   cases ah;obtain⟨l1,g1⟩:=Yt qd;obtain⟨rfl,g2⟩:=Yu mT;refine b0.put hR hd (x:=.func (.func f) #[] (vx.map a.eval)) ?_ (.fn f us _ (by simp;omega) (fun j v hj=>?_))
   ·simp[execOp,ho,Instr.makeFunc]
   ·obtain⟨i,o',e⟩:=g2 v (List.mem_of_getElem? hj)
    obtain⟨x,hx,yw⟩:=g1 j v hj;have br:j<vx.size:=by have:=eC hx;omega
    have hr:=cL hR (hc.2 j x vx[j] hx (by simp[br])) yw
    subst e;obtain⟨e2,hi⟩:=w5 hr;exact⟨i,o',rfl,hi,by simp[br,e2]⟩
  ·cases ah
 ·cases ah
end
end Go.Vm
