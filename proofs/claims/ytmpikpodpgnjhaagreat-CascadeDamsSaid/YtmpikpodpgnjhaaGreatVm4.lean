/- The value machine, 4: the operations that only compute. -/
import Derived.Test.YtmpikpodpgnjhaaGreatVm3
namespace Go.Vm
set_option linter.all false
def EF:Value→V→Bool
 |.int k n,.int k' n'=>decide (k=k')&&n==n'
 |.bool b,.bool c=>b==c
 |.string s,.str l=>s.data.toList==l
 |.slice none 0 0,.aM=>true
 |.pointer none,.iq=>true
 |.nilFunc,.hZ=>true
 |.map none,.iu=>true
 |_,_=>false
def rX:List Value→List V→Bool
 |[],[]=>true
 |x::xs,v::vs=>EF x v&&rX xs vs
 |_,_=>false
def EG:Value→V→Bool
 |.agg xs,.agg cs=>rX xs.toList cs
 |x,v=>EF x v
theorem NX{X:Cx}{x:Value}{v:V}(h:EF x v=true):bh X v x∧v.cU=true∧∀d,v.cB d=false:=by
 unfold EF at h;split at h
 ·simp at h;obtain⟨rfl,rfl⟩:=h
  exact⟨.plain (.int _ _) (fun _ _ _ e=>by cases e),rfl,fun _=>rfl⟩
 ·simp at h;subst h
  exact⟨.plain (.bool _) (fun _ _ _ e=>by cases e),rfl,fun _=>rfl⟩
 ·simp at h;subst h
  exact⟨.plain (.str _) (fun _ _ _ e=>by cases e),rfl,fun _=>rfl⟩
 ·exact⟨.plain .aM (fun _ _ _ e=>by cases e),rfl,fun _=>rfl⟩
 ·exact⟨.iq,rfl,fun _=>rfl⟩
 ·exact⟨.hZ,rfl,fun _=>rfl⟩
 ·exact⟨.iu,rfl,fun _=>rfl⟩
 ·cases h
theorem z7{X:Cx}:∀{xs:List Value} {vs:List V},rX xs vs=true→vs.length=xs.length ∧
  (∀(i:Nat) (v:V) (x:Value),vs[i]?=some v→xs[i]?=some x→v.cU=true∧(∀d,v.cB d=false)∧bh X v x)
 |[],[],_=>⟨rfl,by simp⟩
 |[],_::_,h=>by simp[rX]at h
 |_::_,[],h=>by simp[rX]at h
 |x::xs,v::vs,h=>by
  simp only[rX,Bool.and_eq_true]at h;obtain⟨h1,h2⟩:=h;obtain⟨hl,hr⟩:=z7 (X:=X) h2;refine⟨by simp[hl],fun i u y hu hy=>?_⟩
  cases i with
  |zero =>
   simp at hu hy;subst hu;subst hy;obtain⟨a,b,c⟩:=NX (X:=X) h1;exact⟨b,c,a⟩
  |succ j=>exact hr j u y (by simpa using hu) (by simpa using hy)
theorem NY{X:Cx}{x:Value}{v:V}(h:EG x v=true):bh X v x:=by
 unfold EG at h;split at h
 ·obtain⟨hl,hr⟩:=z7 (X:=X) h
  exact .agg _ _ (by simpa using hl) (fun i v x hv hx=>(hr i v x hv (by simpa using hx)).2.2)
 ·exact(NX h).1
def bX:Operand→bD→Bool
 |.tmp t,.t s=>t==s
 |.const v,.c u=>EG v u
 |.func f,.c (.fn g [])=>f==g
 |_,_=>false
section
variable {P:Program} {E:Entry} {g:Gh} {S:St} {a:Act} {w:World}
theorem cX(hR:R E g S a w){y:Operand}{x:bD}(ho:bX y x=true){v:V}(hv:S.ev x=some v):bh (S.cx g w) v (a.eval y):=by
 unfold bX at ho;split at ho
 ·simp at ho;subst ho
  obtain⟨z,hz,hr⟩:=hR.env _ v hv;simp only[Act.eval];simpa [hz] using hr
 ·simp only[St.ev,Option.some.injEq]at hv;subst hv
  exact NY ho
 ·simp at ho;subst ho
  simp only[St.ev,Option.some.injEq]at hv;subst hv;exact .fn _ [] #[] rfl (by simp)
 ·cases ho
theorem lq{X:Cx}{k:IntKind}{n:Int}{x:Value}(h:bh X (.int k n) x):x=.int k n:=by
 cases h with|plain h _=>cases h;rfl
theorem wF{X:Cx}{b:Bool}{x:Value}(h:bh X (.bool b) x):x=.bool b:=by
 cases h with|plain h _=>cases h;rfl
theorem rh{X:Cx}{n:Nat}{x:Value}(h:bh X (.eX n) x):kz x:=by
 cases h with
 |plain h _=>cases h
 |eX h=>exact h
theorem BW{X:Cx}{n:Nat}{x:Value}(h:bh X (.iJ n) x):∃a cap,x=.slice (some a) 0 cap:=by
 cases h with
 |plain h _=>cases h
 |iJ n a cap=>exact⟨a,cap,rfl⟩
theorem nT{X:Cx}{x:Value}(h:bh X .aM x):x=.slice none 0 0:=by
 cases h with|plain h _=>cases h;rfl
theorem Wf{X:Cx}{l:List UInt8}{x:Value}(h:bh X (.str l) x):∃s:ByteArray,x=.string s∧s.data.toList=l:=by
 cases h with|plain h _=>cases h;exact⟨_,rfl,rfl⟩
theorem wG{X:Cx}{id off:Nat}{x:Value}(h:bh X (.bJ id off) x):x=.pointer (some ⟨X.g.κ id,off,none⟩):=by
 cases h with
 |plain h _=>cases h
 |bJ=>rfl
theorem wH{X:Cx}{i off:Nat}{x:Value}(h:bh X (.bN i off) x):x=.pointer (some ⟨X.g.γ i,off,none⟩)∧i<X.N:=by
 cases h with
 |plain h _=>cases h
 |bN _ _ h=>exact⟨rfl,h⟩
theorem EH{X:Cx}{i s n:Nat}{x:Value}(h:bh X (.dB i s n) x):i<X.N∧((∃cap,n≤cap∧x=.slice (some ⟨X.g.γ i,0,none⟩) n cap)∨n=0∧kz x):=by
 cases h with
 |plain h _=>cases h
 |dB _ _ _ cap h hl=>exact⟨h,.inl ⟨cap,hl,rfl⟩⟩
 |s8 _ _ h hz=>exact⟨h,.inr ⟨rfl,hz⟩⟩
theorem Wg{X:Cx}{id s off n:Nat}{x:Value}(h:bh X (.ld id s off n) x):∃cap,n≤cap∧x=.slice (some ⟨X.g.κ id,off*s,none⟩) n cap:=by
 cases h with
 |plain h _=>cases h
 |ld _ _ _ _ cap h=>exact⟨cap,h,rfl⟩
theorem pH{X:Cx}{id s n:Nat}{x:Value}(h:bh X (.b0 id s n) x):(∃cap,n≤cap∧cap*s=X.g.cp id∧x=.slice (some ⟨X.g.κ id,0,none⟩) n cap)∨n=0∧kz x∧X.g.cp id=0:=by
 cases h with
 |plain h _=>cases h
 |b0 _ _ _ cap h hc=>exact .inl ⟨cap,h,hc,rfl⟩
 |qn _ _ h hc=>exact .inr ⟨rfl,h,hc⟩
theorem pj{X:Cx}{cs:List V}{x:Value}(h:bh X (.agg cs) x) :
  ∃xs:Array Value,x=.agg xs∧cs.length=xs.size∧∀(i:Nat) (v:V) (y:Value),cs[i]?=some v→xs[i]?=some y→bh X v y:=by
 cases h with
 |plain h _=>cases h
 |agg _ xs hl hx=>exact⟨xs,rfl,hl,hx⟩
theorem Wh{X:Cx}{cs:List V}{x:Value}(h:bh X (.tuple cs) x) :
  ∃xs:Array Value,x=.tuple xs∧cs.length=xs.size∧∀(i:Nat) (v:V) (y:Value),cs[i]?=some v→xs[i]?=some y→bh X v y:=by
 cases h with
 |plain h _=>cases h
 |tuple _ xs hl hx=>exact⟨xs,rfl,hl,hx⟩
theorem bh.int{X:Cx}(k:IntKind)(n:Int):bh X (.int k n) (.int k n):=.plain (.int k n) (fun _ _ _ e=>by cases e)
theorem bh.bool{X:Cx}(b:Bool):bh X (.bool b) (.bool b):=.plain (.bool b) (fun _ _ _ e=>by cases e)
structure PW(X:Cx)(cs:List V)(xs:List Value):Prop where
 len:cs.length=xs.length
 at_:∀(i:Nat) (v:V) (y:Value),cs[i]?=some v→xs[i]?=some y→bh X v y
theorem fk.xN{h:Array Obj}{m:Nat→Nat}{v:V}{x:Value}(hr:fk h m v x):x.oneCell'=true:=by
 cases hr<;>rfl
theorem Ii{X:Cx}{v:V}{x:Value}(h:bh X v x)(hc:v.cU=true):x.oneCell'=true:=by
 cases h with
 |plain h _=>exact h.xN
 |fG h=>exact h.xN
 |eX h=>rcases h with rfl | ⟨a,rfl⟩<;>rfl
 |qn _ _ h _=>rcases h with rfl | ⟨a,rfl⟩<;>rfl
 |s8 _ _ _ h=>rcases h with rfl | ⟨a,rfl⟩<;>rfl
 |undef=>simp[V.cU]at hc
 |agg=>simp[V.cU]at hc
 |tuple=>simp[V.cU]at hc
 |_=>rfl
theorem fk.cells{h:Array Obj}{m:Nat→Nat}{v:V}{x:Value}(hr:fk h m v x):x.cells = #[x]:=by
 cases hr<;>rfl
theorem z8{X:Cx}{v:V}{x:Value}(h:bh X v x)(hu:∀u∈v.cells,u.cU=true):PW X v.cells x.cells.toList:=by
 cases h with
 |undef=>exact absurd (hu .undef (by simp[V.cells])) (by simp[V.cU])
 |plain h ht =>
  have hx:=h.cells;have hv:v.cells=[v]:=by cases h<;>rfl
  rw[hv,hx];refine⟨rfl,fun i u y hu hy=>?_⟩;cases i with
  |zero=>simp at hu hy;subst hu;subst hy;exact .plain h ht
  |succ j=>simp at hu
 |eX h =>
  refine⟨by rcases h with rfl | ⟨a,rfl⟩<;>rfl,fun i u y hu hy=>?_⟩
  have hx:x.cells = #[x]:=by rcases h with rfl | ⟨a,rfl⟩<;>rfl
  rw[hx]at hy;cases i with
  |zero=>simp[V.cells]at hu hy;subst hu;subst hy;exact .eX h
  |succ j=>simp[V.cells]at hu
 |iJ n a cap=>exact⟨rfl,fun i u y hu hy=>by cases i with|zero=>(simp[V.cells,Value.cells]at hu hy;subst hu;subst hy;exact .iJ n a cap)|succ j=>simp[V.cells]at hu⟩
 |fG h =>
  rename_i n es;have hx:=h.cells;have hv:(V.fG n es).cells=[.fG n es]:=rfl;rw[hv,hx];refine⟨rfl,fun i u y hu hy=>?_⟩;cases i with
  |zero=>simp at hu hy;subst hu;subst hy;exact .fG h
  |succ j=>simp at hu
 |agg cs xs hl hx=>exact⟨by simpa [V.cells,Value.cells] using hl,fun i u y hu hy=>hx i u y hu (by simpa [Value.cells] using hy)⟩
 |tuple cs xs hl hx=>exact absurd (hu (.tuple cs) (by simp[V.cells])) (by simp[V.cU])
 |bJ id off=>exact⟨rfl,fun i u y hu hy=>by cases i with|zero=>(simp[V.cells,Value.cells]at hu hy;subst hu;subst hy;exact .bJ id off)|succ j=>simp[V.cells]at hu⟩
 |b0 id off n cap h hc=>exact⟨rfl,fun i u y hu hy=>by cases i with|zero=>(simp[V.cells,Value.cells]at hu hy;subst hu;subst hy;exact .b0 id off n cap h hc)|succ j=>simp[V.cells]at hu⟩
 |bN i off h=>exact⟨rfl,fun i u y hu hy=>by cases i with|zero=>(simp[V.cells,Value.cells]at hu hy;subst hu;subst hy;exact .bN _ off h)|succ j=>simp[V.cells]at hu⟩
 |ld id s off n cap h=>exact⟨rfl,fun i u y hu hy=>by cases i with|zero=>(simp[V.cells,Value.cells]at hu hy;subst hu;subst hy;exact .ld id s off n cap h)|succ j=>simp[V.cells]at hu⟩
 |dB i s n cap h hl=>exact⟨rfl,fun i u y hu hy=>by cases i with|zero=>(simp[V.cells,Value.cells]at hu hy;subst hu;subst hy;exact .dB _ s n cap h hl)|succ j=>simp[V.cells]at hu⟩
 |qn id s h hc =>
  refine⟨by rcases h with rfl | ⟨a,rfl⟩<;>rfl,fun i u y hu hy=>?_⟩
  have hx:x.cells = #[x]:=by rcases h with rfl | ⟨a,rfl⟩<;>rfl
  rw[hx]at hy;cases i with
  |zero=>simp[V.cells]at hu hy;subst hu;subst hy;exact .qn id s h hc
  |succ j=>simp[V.cells]at hu
 |s8 k s h hz =>
  refine⟨by rcases hz with rfl | ⟨a,rfl⟩<;>rfl,fun i u y hu hy=>?_⟩
  have hx:x.cells = #[x]:=by rcases hz with rfl | ⟨a,rfl⟩<;>rfl
  rw[hx]at hy;cases i with
  |zero=>simp[V.cells]at hu hy;subst hu;subst hy;exact .s8 k s h hz
  |succ j=>simp[V.cells]at hu
 |iq=>exact⟨rfl,fun i u y hu hy=>by cases i with|zero=>(simp[V.cells,Value.cells]at hu hy;subst hu;subst hy;exact .iq)|succ j=>simp[V.cells]at hu⟩
 |gz row off b o ys hb hc hv hp hm=>exact⟨rfl,fun i u y hu hy=>by cases i with|zero=>(simp[V.cells,Value.cells]at hu hy;subst hu;subst hy;exact .gz row off b o ys hb hc hv hp hm)|succ j=>simp[V.cells]at hu⟩
 |fn f cap xs hl hx=>exact⟨rfl,fun i u y hu hy=>by cases i with|zero=>(simp[V.cells,Value.cells]at hu hy;subst hu;subst hy;exact .fn f cap xs hl hx)|succ j=>simp[V.cells]at hu⟩
 |hZ=>exact⟨rfl,fun i u y hu hy=>by cases i with|zero=>(simp[V.cells,Value.cells]at hu hy;subst hu;subst hy;exact .hZ)|succ j=>simp[V.cells]at hu⟩
 |map i h=>exact⟨rfl,fun i u y hu hy=>by cases i with|zero=>(simp[V.cells,Value.cells]at hu hy;subst hu;subst hy;exact .map _ h)|succ j=>simp[V.cells]at hu⟩
 |iu=>exact⟨rfl,fun i u y hu hy=>by cases i with|zero=>(simp[V.cells,Value.cells]at hu hy;subst hu;subst hy;exact .iu)|succ j=>simp[V.cells]at hu⟩
theorem Ij{X:Cx}{v:V}{x:Value}(h:bh X v x):bh X v.lh x:=by
 cases h with
 |fG h=>exact .plain h (fun _ _ _ e=>by cases e)
 |eX h=>exact .eX h
 |iJ n a cap=>exact .iJ n a cap
 |plain h t=>cases h<;>exact .plain (by first|exact .int _ _|exact .bool _|exact .str _|exact .aM|exact .nil _ _|exact .empty _ _ _ _|(rename_i a b c d e f g i;exact .slice _ _ _ _ _ _ _ (by assumption) (by assumption) (by assumption) (by assumption) (by assumption) (by assumption) (by assumption))) t
 |undef=>exact .undef
 |bJ=>exact .bJ _ _
 |b0 _ _ _ _ h hc=>exact .b0 _ _ _ _ h hc
 |bN _ _ h=>exact .bN _ _ h
 |qn _ _ h hc=>exact .qn _ _ h hc
 |ld _ _ _ _ _ h=>exact .ld _ _ _ _ _ h
 |dB _ _ _ _ h hl=>exact .dB _ _ _ _ h hl
 |s8 _ _ h hz=>exact .s8 _ _ h hz
 |iq=>exact .iq
 |gz row off b o ys hb hc hv hp hm=>exact .gz row off b o ys hb hc hv hp hm
 |fn f cap xs hl hx=>exact .fn f cap xs hl hx
 |hZ=>exact .hZ
 |map _ h=>exact .map _ h
 |iu=>exact .iu
 |agg cs xs hl hx=>exact .agg cs xs hl hx
 |tuple cs xs hl hx=>exact .tuple cs xs hl hx
theorem NZ{X:Cx}{v:V}{x:Value}(h:bh X v x):bh X v.mE x:=by
 have key:(∃cs,v=.agg cs)∨v.mE=v.lh:=by
  cases v<;>first|(left;exact⟨_,rfl⟩)|(right;rfl)
 rcases key with⟨cs,rfl⟩ | e
 ·obtain⟨xs,e,hl,hx⟩:=pj h
  subst e;refine .agg _ _ (by simpa using hl) (fun i u y hu hy=>?_)
  rw[List.getElem?_map]at hu;cases hc:cs[i]? with
  |none=>simp[hc]at hu
  |some z =>
   simp[hc]at hu;subst hu;exact Ij (hx i z y hc hy)
 ·rw[e];exact Ij h
theorem Wi{X:Cx}{r:jr}{v:V}{x:Value}(h:bh X v x):bh X (zV r v) x:=by
 cases r
 ·exact h
 ·exact NZ h
 ·exact h
def ct(P:Program)(E:Entry)(o:Oper)(S:St)(S':St)(a:Act)(w:World):Prop :=
 ∀(K:Act→World→Prop) (Q:Exit→Act→World→Prop),(∀g' a' w',R E g' S' a' w'→K a' w')→o.wp P a w K Q
theorem ct.value{o:Oper}{S S':St}{x:Value}{g':Gh}{w':World}(aj:(execOp a.eval o).run P w=.ok (.value x) w')(hR:R E g' S' (a.put o.dst x) w') :
  ct P E o S S' a w:=fun K Q hK=>by
 unfold Oper.wp;rw[aj,Oper.upon_value];exact hK _ _ _ hR
theorem ct.skip{o:Oper}{S S':St}{g':Gh}{w':World}(aj:(execOp a.eval o).run P w=.ok .skip w')(hd:o.dst=none)(hR:R E g' S' a w') :
  ct P E o S S' a w:=fun K Q hK=>by
 unfold Oper.wp;rw[aj,Oper.upon_skip,hd];exact hK _ _ _ hR
theorem ct.put{o:Oper}{v:V}{x:Value}(hR:R E g S a w)(hd:∀d,o.dst=some d→d<E.nt)
  (aj:(execOp a.eval o).run P w=.ok (.value x) w) (hx:bh (S.cx g w) v x):ct P E o S (S.put o.dst v) a w :=
 .value aj (hR.put hd hx)
theorem N3{o:Oper}{y:Operand}{x:bD}{S':St}{C:bH}(ho:o.op=.move y∨o.op=.assign y)(hx:bX y x=true)(hR:R E g S a w)
  (hd:∀d,o.dst=some d→d<E.nt) (aj:VO.run C o.dst S (.mv x)=some S'):ct P E o S S' a w:=by
 simp only[VO.run]at aj;split at aj
 ·rename_i v hv
  cases aj;refine ct.put hR hd (x:=a.eval y) ?_ (cX hR hx hv);rcases ho with ho|ho<;>simp[execOp,ho]
 ·cases aj
theorem Wj{o:Oper}{c p q:Operand}{c' p' q':bD}{S':St}{C:bH}(ho:o.op=.pick c p q)(hc:bX c c'=true)(hp:bX p p'=true)(hq:bX q q'=true)
  (hR:R E g S a w) (hd:∀d,o.dst=some d→d<E.nt) (aj:VO.run C o.dst S (.pick c' p' q')=some S'):ct P E o S S' a w:=by
 simp only[VO.run]at aj;split at aj
 ·rename_i t ht
  split at aj
  ·rename_i v hv
   cases aj;have h1:=wF (cX hR hc ht);refine ct.put hR hd (x:=if t then a.eval p else a.eval q) ?_ ?_
   ·simp[execOp,ho,h1,asBool]
   ·cases t
    ·exact cX hR hq hv
    ·exact cX hR hp hv
  ·cases aj
 ·cases aj
theorem Wk(op:BinOp)(t:TypeId)(x y:Operand)(k k':IntKind)(m n:Int):(eqGuard op t x y (.int k m) (.int k' n)).run P w=.ok () w:=by
 unfold eqGuard;split<;>simp
theorem Wl(op:BinOp)(t:TypeId)(x y:Operand)(m n:Bool):(eqGuard op t x y (.bool m) (.bool n)).run P w=.ok () w:=by
 unfold eqGuard;split<;>simp
theorem iW{t:TypeId}{d:TypeDesc}(h:P.underlying t=some d):(underlying t).run P w=.ok d w:=by
 unfold underlying;simp[h]
omit E g S a in
theorem Wm{op:BinOp}{t:TypeId}{k:IntKind}{m n:Int}{v:V}(h:BU op k m n=some v) :
  ∃x,(binOp op t (.int k m) (.int k n)).run P w=.ok x w∧∀X:Cx,bh X v x:=by
 unfold BU at h;split at h
 all_goals (try (cases h;done))
 all_goals (try (split at h;· cases h))
 all_goals (cases h)
 all_goals first
  |(refine⟨_,?_,fun X=>bh.int _ _⟩;simp[binOp,Op.intArith];done)
  |(refine⟨_,?_,fun X=>bh.int _ _⟩;simp[binOp,Op.intDiv, *];done)
  |(refine⟨_,?_,fun X=>bh.int _ _⟩;simp[binOp,Op.shift, *];done)
  |(refine⟨_,?_,fun X=>bh.bool _⟩;simp[binOp,Op.intCmp];done)
theorem Wn{o:Oper}{op:BinOp}{t t':TypeId}{p q:Operand}{x y:bD}{S':St}{C:bH}(ho:o.op=.binOp op t p q t')(hp:bX p x=true)(hq:bX q y=true)
  (hR:R E g S a w) (hd:∀d,o.dst=some d→d<E.nt) {k:IntKind} {m:Int} {k':IntKind} {n:Int} (h1:S.ev x=some (.int k m)) (h2:S.ev y=some (.int k' n))
  (aj:VO.run C o.dst S (.bin op x y)=some S'):ct P E o S S' a w:=by
 simp only[VO.run,h1,h2,V.bin]at aj;by_cases hk:k=k'
 ·subst hk
  simp only[decide_true,cond_true]at aj;split at aj
  ·rename_i v hv
   cases aj;have e1:=lq (cX hR hp h1);have e2:=lq (cX hR hq h2);obtain⟨z,hz,hx⟩:=Wm (P:=P) (w:=w) (t:=t) hv;refine ct.put hR hd (x:=z) ?_ (hx _);simp[execOp,ho,e1,e2,Wk,hz]
  ·cases aj
 ·simp[hk]at aj
theorem Wo{t:TypeId}(ht:P.underlying t=some .bool)(m n:Bool):(Op.equal t (.bool m) (.bool n)).run P w=.ok (m==n) w:=by
 unfold Op.equal;rw[show Op.maxDepth=9999+1 from rfl,Op.equalIn];simp[iW ht]
theorem Wp{o:Oper}{neg:Bool}{t t':TypeId}{p q:Operand}{x y:bD}{S':St}{C:bH}(ho:o.op=.binOp (if neg then .neq else .eql) t p q t')(ht:P.underlying t=some .bool)(hp:bX p x=true)(hq:bX q y=true)
  (hR:R E g S a w) (hd:∀d,o.dst=some d→d<E.nt) (aj:VO.run C o.dst S (.beq neg x y)=some S'):ct P E o S S' a w:=by
 simp only[VO.run]at aj;split at aj
 ·rename_i m n h1 h2
  cases aj;have e1:=wF (cX hR hp h1);have e2:=wF (cX hR hq h2);refine ct.put hR hd (x:=.bool (bif neg then m != n else m==n)) ?_ (bh.bool _);cases neg<;>simp[execOp,ho,e1,e2,Wl,binOp,Wo ht];cases m<;>cases n<;>rfl
 ·cases aj
theorem Wq{o:Oper}{op:BinOp}{t t':TypeId}{p q:Operand}{x y:bD}{S':St}{C:bH}(ho:o.op=.binOp op t p q t')(hp:bX p x=true)(hq:bX q y=true)
  (hR:R E g S a w) (hd:∀d,o.dst=some d→d<E.nt) (aj:VO.run C o.dst S (.bin op x y)=some S'):ct P E o S S' a w:=by
 have xO:=aj;simp only[VO.run]at aj;split at aj
 ·rename_i u v h1 h2
  split at aj
  ·rename_i z hz
   unfold V.bin at hz;split at hz
   ·exact Wn ho hp hq hR hd h1 h2 xO
   ·cases hz
  ·cases aj
 ·cases aj
theorem Wr{o:Oper}{op:UnOp}{t:TypeId}{p:Operand}{x:bD}{S':St}{C:bH}(ho:o.op=.unOp op t p)(hp:bX p x=true)
  (hR:R E g S a w) (hd:∀d,o.dst=some d→d<E.nt) (aj:VO.run C o.dst S (.un op x)=some S'):ct P E o S S' a w:=by
 simp only[VO.run]at aj;split at aj
 ·rename_i u hu
  have hr:=cX hR hp hu;split at aj
  ·rename_i v hv
   cases aj;unfold V.un at hv;split at hv
   ·have e:=wF hr
    split at hv<;>cases hv;refine ct.put hR hd (x:=_) ?_ (bh.bool _);simp[execOp,ho,e,Op.unary]
    try rfl
   ·have e:=lq hr
    split at hv<;>cases hv;refine ct.put hR hd (x:=_) ?_ (bh.int _ _);simp[execOp,ho,e,Op.unary,Op.intArith]
    try rfl
   ·cases hv
  ·cases aj
 ·cases aj
theorem Ws{o:Oper}{s t:TypeId}{k:IntKind}{d:TypeDesc}{p:Operand}{x:bD}{S':St}{C:bH}(ho:o.op=.convert s t p)(hs:P.underlying s=some d)(ht:P.underlying t=some (.int k))(hp:bX p x=true)
  (hR:R E g S a w) (hd:∀d,o.dst=some d→d<E.nt) (aj:VO.run C o.dst S (.conv k x)=some S'):ct P E o S S' a w:=by
 simp only[VO.run]at aj;split at aj
 ·rename_i j n hn
  cases aj;have e:=lq (cX hR hp hn);refine ct.put hR hd (x:=_) ?_ (bh.int _ _);simp[execOp,ho,e,convert,iW hs,iW ht,Conv.intToInt]
  try rfl
 ·cases aj
theorem Wt{o:Oper}{p:Operand}{x:bD}{S':St}{C:bH}(ho:o.op=.nilCheck p)(hp:bX p x=true)
  (hR:R E g S a w) (hd:∀d,o.dst=some d→d<E.nt) (aj:VO.run C o.dst S (.qm x)=some S'):ct P E o S S' a w:=by
 simp only[VO.run]at aj;split at aj
 ·rename_i i f hv
  cases aj;have hr:=cX hR hp hv;have e:=wG hr;refine ct.put hR hd (x:=_) ?_ hr;simp[execOp,ho,e]
 ·rename_i i f hv
  cases aj;have hr:=cX hR hp hv;obtain⟨e,_⟩:=wH hr;refine ct.put hR hd (x:=_) ?_ hr;simp[execOp,ho,e]
 ·rename_i r f hv
  cases aj;have hr:=cX hR hp hv;obtain⟨b,o',e⟩:∃b o',a.eval p=.pointer (some ⟨b,o',none⟩):=by
   generalize a.eval p=z at hr;cases hr with
   |plain h _=>cases h
   |gz _ _ b o'=>exact⟨b,_,rfl⟩
  refine ct.put hR hd (x:=_) ?_ hr;simp[execOp,ho,e]
 ·cases aj
theorem N4{X:Cx}{v:V}{x:Value}(h:bh X v x)(n:Nat) :
  (∀i o,v=.bJ i o→∃b f,x=.pointer (some ⟨b,f,none⟩)∧bh X (.bJ i (o+n)) (.pointer (some ⟨b,f+n,none⟩))) ∧
  (∀i o,v=.bN i o→∃b f,x=.pointer (some ⟨b,f,none⟩)∧bh X (.bN i (o+n)) (.pointer (some ⟨b,f+n,none⟩))) ∧
  (∀r o,v=.gz r o→∃b f,x=.pointer (some ⟨b,f,none⟩)∧bh X (.gz r (o+n)) (.pointer (some ⟨b,f+n,none⟩))):=by
 refine⟨fun i o e=>?_,fun i o e=>?_,fun r o e=>?_⟩
 ·subst e;rw[wG h];exact⟨_,_,rfl,.bJ _ _⟩
 ·subst e;obtain⟨e,hi⟩:=wH h;rw[e];exact⟨_,_,rfl,.bN _ _ hi⟩
 ·subst e
  cases h with
  |plain h _=>cases h
  |gz _ _ b o' ys hb hc hv hp hm=>exact⟨_,_,rfl,by rw[Nat.add_assoc];exact .gz r (o+n) b o' ys hb hc hv hp hm⟩
theorem kB(b f n:Nat):(⟨b,f,none⟩:Addr).add n=⟨b,f+n,none⟩:=by
 unfold Addr.add;split
 ·simp[*]
 ·rfl
theorem nU{t:TypeId}{n:Nat}(h:(P.info? t).map (·.size)=some n):(sizeOf t).run P w=.ok n w:=by
 cases hi:P.info? t with
 |none=>simp[hi]at h
 |some i=>simp[hi]at h;simp[sizeOf,typeInfo,hi,h]
theorem Wu{o:Oper}{s:TypeId}{fi off:Nat}{fs:Array Field}{f:Field}{n:Nat}{p:Operand}{x:bD}{S':St}{C:bH}(ho:o.op=.fieldAddr s p fi)(hs:P.underlying s=some (.struct fs))
  (hf:fs[fi]?=some f) (hn:(P.info? f.type).map (·.size)=some n) (h0:n≠0) (m7:f.offset=off) (hp:bX p x=true)
  (hR:R E g S a w) (hd:∀d,o.dst=some d→d<E.nt) (aj:VO.run C o.dst S (.qW off x)=some S'):ct P E o S S' a w:=by
 simp only[VO.run]at aj;split at aj
 all_goals first|(cases aj;done)|skip
 all_goals
  rename_i hv;cases aj;obtain⟨m1,m2,m3⟩:=N4 (cX hR hp hv) off
 ·obtain⟨b,q,e,hr⟩:=m1 _ _ rfl
  refine ct.put hR hd (x:=_) ?_ hr;simp[execOp,ho,e,Instr.fieldAt,iW hs,hf,Instr.sureAddr,fieldPlace,nU hn,h0,m7,kB]
 ·obtain⟨b,q,e,hr⟩:=m2 _ _ rfl
  refine ct.put hR hd (x:=_) ?_ hr;simp[execOp,ho,e,Instr.fieldAt,iW hs,hf,Instr.sureAddr,fieldPlace,nU hn,h0,m7,kB]
 ·obtain⟨b,q,e,hr⟩:=m3 _ _ rfl
  refine ct.put hR hd (x:=_) ?_ hr;simp[execOp,ho,e,Instr.fieldAt,iW hs,hf,Instr.sureAddr,fieldPlace,nU hn,h0,m7,kB]
theorem Wv{o:Oper}{t:TypeId}{len:Nat}{el:TypeId}{sz:Nat}{p q:Operand}{x i:bD}{S':St}{C:bH}(ho:o.op=.indexAddr t p q)(ht:P.underlying t=some (.array len el))
  (hn:(P.info? el).map (·.size)=some sz) (hp:bX p x=true) (hq:bX q i=true)
  (hR:R E g S a w) (hd:∀d,o.dst=some d→d<E.nt) (aj:VO.run C o.dst S (.eo (some len) sz x i)=some S'):ct P E o S S' a w:=by
 simp only[VO.run]at aj;split at aj
 ·rename_i u k m hu hm
  have e2:=lq (cX hR hq hm);cases hc:(decide (0≤m)&&decide (m<(len:Int))) with
  |false=>simp[hc]at aj
  |true =>
   simp only[hc,cond_true]at aj;simp only[Bool.and_eq_true,decide_eq_true_eq]at hc;have hr:=cX hR hp hu;obtain⟨m1,m2,m3⟩:=N4 hr (m.toNat*sz);split at aj<;>first|(cases aj;done)|skip
   all_goals cases aj
   ·obtain⟨b,f,e,hx⟩:=m1 _ _ rfl
    refine ct.put hR hd (x:=_) ?_ hx;simp[execOp,ho,e,e2,Instr.indexAt,asIntOf,iW ht,Instr.sureAddr,nU hn,hc,kB]
   ·obtain⟨b,f,e,hx⟩:=m2 _ _ rfl
    refine ct.put hR hd (x:=_) ?_ hx;simp[execOp,ho,e,e2,Instr.indexAt,asIntOf,iW ht,Instr.sureAddr,nU hn,hc,kB]
   ·obtain⟨b,f,e,hx⟩:=m3 _ _ rfl
    refine ct.put hR hd (x:=_) ?_ hx;simp[execOp,ho,e,e2,Instr.indexAt,asIntOf,iW ht,Instr.sureAddr,nU hn,hc,kB]
 ·cases aj
theorem eY{α:Type}{l:List α}{i:Nat}{x:α}(h:l[i]?=some x):i<l.length:=by
 rcases Nat.lt_or_ge i l.length with h' | h'
 ·exact h'
 ·simp[List.getElem?_eq_none h']at h
theorem Ww{o:Oper}{t:TypeId}{el:TypeId}{sz:Nat}{p q:Operand}{x i:bD}{S':St}{C:bH}(ho:o.op=.indexAddr t p q)(ht:P.underlying t=some (.slice el))
  (hn:(P.info? el).map (·.size)=some sz) (hp:bX p x=true) (hq:bX q i=true)
  (hR:R E g S a w) (hd:∀d,o.dst=some d→d<E.nt) (aj:VO.run C o.dst S (.eo none sz x i)=some S'):ct P E o S S' a w:=by
 simp only[VO.run]at aj;split at aj
 ·rename_i tk m es k z hu hm
  have e2:=lq (cX hR hq hm);cases hc:(decide (0≤z)&&(m==sz)) with
  |false=>simp[hc]at aj
  |true =>
   simp only[hc,cond_true]at aj;simp only[Bool.and_eq_true,decide_eq_true_eq,beq_iff_eq]at hc;obtain⟨hz,rfl⟩:=hc;split at aj
   ·rename_i row iC
    cases aj;have bF:=eY iC;have hr:=cX hR hp hu;obtain⟨b,off,cap,ys,e,hb,eN,h1,h2,h3,h3p,h4⟩:∃(b off cap:Nat) (ys:Nat→Nat→Value),a.eval p=.slice (some ⟨b,off,none⟩) es.length cap∧b<w.heap.size∧es.length≤cap ∧
      (∀(i:Nat) (row:List V),es[i]?=some row→row.length=m) ∧
      (∀(i:Nat) (row:List V) (j:Nat) (v:V),es[i]?=some row→row[j]?=some v→cellAt w.heap b (off+i*m+j)=some (ys i j)) ∧
      (∀(i:Nat) (row:List V) (j:Nat) (v:V),es[i]?=some row→row[j]?=some v→fk w.heap g.m v (ys i j)) ∧
      (∀(i:Nat) (row:List V) (j:Nat) (v:V),es[i]?=some row→row[j]?=some v→v.plain=true)∧off+es.length*m≤g.m b:=by
     generalize a.eval p=y at hr;cases hr with
     |plain h _ =>
      cases h with
      |nil=>simp at bF
      |empty=>simp at bF
      |slice _ _ _ b off cap ys hb eN iC hc hv hp hm=>exact⟨b,off,cap,ys,rfl,hb,eN,iC,hc,hv,hp,hm⟩
    refine ct.put hR hd (x:=.pointer (some ⟨b,off+z.toNat*m,none⟩)) ?_ ?_
    ·have xP:z<(es.length:Int):=by omega
     simp[execOp,ho,e,e2,Instr.indexAt,asIntOf,iW ht,nU hn,hz,xP,kB]
    ·refine .gz row 0 b (off+z.toNat*m) (ys z.toNat) hb (fun j v hj=>h2 _ row j v iC hj) (fun j v hj=>h3 _ row j v iC hj) (fun j v hj=>h3p _ row j v iC hj) ?_
     have:=h1 _ row iC;have h5:z.toNat*m+m≤es.length*m:=by
      have:=Nat.mul_le_mul_right m bF;rw[Nat.succ_mul]at this;exact this
     show off+z.toNat*m+row.length≤g.m b;omega
   ·cases aj
 ·rename_i id off len k z hu hm
  have e2:=lq (cX hR hq hm);cases hc:(decide (0≤z)&&decide (z<(len:Int))&&(off==sz)) with
  |false=>simp[hc]at aj
  |true =>
   simp only[hc,cond_true]at aj;simp only[Bool.and_eq_true,decide_eq_true_eq]at hc;cases aj;have hr:=cX hR hp hu;rcases pH hr with⟨cap,eN,_,hy⟩ | ⟨h0,_⟩
   ·refine ct.put hR hd (x:=.pointer (some ⟨g.κ id,z.toNat*sz,none⟩)) ?_ (.bJ _ _)
    simp[execOp,ho,hy,e2,Instr.indexAt,asIntOf,iW ht,nU hn,hc.1,kB];rfl
   ·omega
 ·rename_i id off len k z hu hm
  have e2:=lq (cX hR hq hm);cases hc:(decide (0≤z)&&decide (z<(len:Int))&&(off==sz)) with
  |false=>simp[hc]at aj
  |true =>
   simp only[hc,cond_true]at aj;simp only[Bool.and_eq_true,decide_eq_true_eq]at hc;cases aj;have hr:=cX hR hp hu;obtain⟨hi,⟨cap,eN,hy⟩ | ⟨h0,_⟩⟩:=EH hr
   ·refine ct.put hR hd (x:=.pointer (some ⟨g.γ id,z.toNat*sz,none⟩)) ?_ (.bN _ _ hi)
    simp[execOp,ho,hy,e2,Instr.indexAt,asIntOf,iW ht,nU hn,hc.1,kB];rfl
   ·omega
 ·cases aj
theorem Wx{o:Oper}{t e:TypeId}{ts:Array TypeId}{p:Operand}{x:bD}{S':St}{C:bH}(ho:o.op=.call ⟨.builtin .len,#[p],ts⟩)(tc:ts[0]?=some t)
  (ht:P.underlying t=some (.slice e)) (hp:bX p x=true)
  (hR:R E g S a w) (hd:∀d,o.dst=some d→d<E.nt) (aj:VO.run C o.dst S (.len x)=some S'):ct P E o S S' a w:=by
 have go:∀(v:V) (n:Nat),S.ev x=some v→(∃q cap,a.eval p=.slice q n cap)→ct P E o S (S.put o.dst (.int .i64 n)) a w:=by
  intro v n hv ⟨q,cap,e⟩;refine ct.put hR hd (x:=.int .i64 n) ?_ (bh.int _ _);simp[execOp,ho,resolve,invoke,builtin,Builtin.len_,tc,e,iW ht,goInt]
 simp only[VO.run]at aj;split at aj
 ·rename_i hv
  cases aj;exact go _ 0 hv ⟨none,0,nT (cX hR hp hv)⟩
 ·rename_i n hv
  cases aj;refine go _ 0 hv ?_;rcases rh (cX hR hp hv) with e | ⟨a,e⟩
  ·exact⟨_,_,e⟩
  ·exact⟨_,_,e⟩
 ·rename_i n hv
  cases aj;refine go _ 0 hv ?_;obtain⟨a,cap,e⟩:=BW (cX hR hp hv);exact⟨_,_,e⟩
 ·rename_i tk n es hv
  cases aj;have hr:=cX hR hp hv;refine go _ _ hv ?_;generalize a.eval p=y at hr;cases hr with
  |plain h _=>cases h with
   |nil=>exact⟨none,0,rfl⟩
   |empty _ _ a cap=>exact⟨some a,cap,rfl⟩
   |slice=>exact⟨_,_,rfl⟩
 ·rename_i i f n hv
  cases aj;have hr:=cX hR hp hv;refine go _ _ hv ?_;rcases pH hr with⟨cap,_,_,hy⟩ | ⟨h0,hy | ⟨a,hy⟩,_⟩
  ·exact⟨_,_,hy⟩
  ·subst h0;exact⟨_,_,hy⟩
  ·subst h0;exact⟨_,_,hy⟩
 ·rename_i i f n hv
  cases aj;have hr:=cX hR hp hv;refine go _ _ hv ?_;obtain⟨_,⟨cap,_,hy⟩ | ⟨h0,hy | ⟨a,hy⟩⟩⟩:=EH hr
  ·exact⟨_,_,hy⟩
  ·subst h0;exact⟨_,_,hy⟩
  ·subst h0;exact⟨_,_,hy⟩
 ·cases aj
theorem Wy{o:Oper}{t e:TypeId}{ts:Array TypeId}{p:Operand}{x:bD}{S':St}{C:bH}(ho:o.op=.call ⟨.builtin .cap,#[p],ts⟩)(tc:ts[0]?=some t)
  (ht:P.underlying t=some (.slice e)) (hp:bX p x=true)
  (hR:R E g S a w) (hd:∀d,o.dst=some d→d<E.nt) (aj:VO.run C o.dst S (.ud x)=some S'):ct P E o S S' a w:=by
 simp only[VO.run]at aj;split at aj
 ·rename_i hv
  cases aj;have e:=nT (cX hR hp hv);refine ct.put hR hd (x:=.int .i64 0) ?_ (bh.int _ _);simp[execOp,ho,resolve,invoke,builtin,Builtin.cap_,tc,e,iW ht,goInt]
 ·cases aj
theorem Wz{o:Oper}{t:TypeId}{ts:Array TypeId}{p:Operand}{x:bD}{S':St}{C:bH}(ho:o.op=.call ⟨.builtin .len,#[p],ts⟩)(tc:ts[0]?=some t)
  (ht:P.underlying t=some .string) (hp:bX p x=true)
  (hR:R E g S a w) (hd:∀d,o.dst=some d→d<E.nt) (aj:VO.run C o.dst S (.ue x)=some S'):ct P E o S S' a w:=by
 simp only[VO.run]at aj;split at aj
 ·rename_i l hv
  cases aj;obtain⟨s,e,hs⟩:=Wf (cX hR hp hv);refine ct.put hR hd (x:=.int .i64 l.length) ?_ (bh.int _ _);have:s.size=l.length:=by rw[←hs];simp
  simp[execOp,ho,resolve,invoke,builtin,Builtin.len_,tc,e,iW ht,goInt,this]
 ·cases aj
theorem WA{o:Oper}{k:Nat}{p:Operand}{x:bD}{S':St}{C:bH}(ho:o.op=.extract p k)(hp:bX p x=true)
  (hR:R E g S a w) (hd:∀d,o.dst=some d→d<E.nt) (aj:VO.run C o.dst S (.ext x k)=some S'):ct P E o S S' a w:=by
 simp only[VO.run]at aj;split at aj
 ·rename_i vs hv
  split at aj
  ·rename_i v hk
   cases aj;obtain⟨xs,e,hl,hx⟩:=Wh (cX hR hp hv);have bF:k<xs.size:=by rw[←hl];exact eY hk
   refine ct.put hR hd (x:=xs[k]) ?_ (hx k v xs[k] hk (by simp[bF]))
   simp[execOp,ho,e,Instr.extract,bF]
  ·cases aj
 ·cases aj
theorem WB{o:Oper}{mx:Bool}{ts:Array TypeId}{p q:Operand}{x y:bD}{S':St}{C:bH}(ho:o.op=.call ⟨.builtin (if mx then .max else .min),#[p,q],ts⟩)(hp:bX p x=true)(hq:bX q y=true)
  (hR:R E g S a w) (hd:∀d,o.dst=some d→d<E.nt) (aj:VO.run C o.dst S (.mm mx x y)=some S'):ct P E o S S' a w:=by
 simp only[VO.run]at aj;split at aj
 ·rename_i k m k' n hm hn
  cases aj;have e1:=lq (cX hR hp hm);have e2:=lq (cX hR hq hn);refine ct.put hR hd (x:=_) ?_ (bh.int _ _);cases mx
  ·simp[execOp,ho,e1,e2,resolve,invoke,builtin,Builtin.min_,Builtin.min2]
   rw[Int.min_def];split<;>split<;>omega
  ·simp[execOp,ho,e1,e2,resolve,invoke,builtin,Builtin.max_,Builtin.max2]
   rw[Int.max_def];split<;>split<;>omega
 ·cases aj
theorem WC{o:Oper}{mx:Bool}{ts:Array TypeId}{p q r:Operand}{x y z:bD}{S':St}{C:bH}(ho:o.op=.call ⟨.builtin (if mx then .max else .min),#[p,q,r],ts⟩)(hp:bX p x=true)(hq:bX q y=true)(hz:bX r z=true)
  (hR:R E g S a w) (hd:∀d,o.dst=some d→d<E.nt) (aj:VO.run C o.dst S (.sY mx x y z)=some S'):ct P E o S S' a w:=by
 simp only[VO.run]at aj;split at aj
 ·rename_i k m k' n k'' l hm hn hl
  cases aj;have e1:=lq (cX hR hp hm);have e2:=lq (cX hR hq hn);have e3:=lq (cX hR hz hl);refine ct.put hR hd (x:=_) ?_ (bh.int _ _);cases mx
  ·simp[execOp,ho,e1,e2,e3,resolve,invoke,builtin,Builtin.min_,Builtin.min2]
   simp only[Int.min_def];repeat' split
   all_goals omega
  ·simp[execOp,ho,e1,e2,e3,resolve,invoke,builtin,Builtin.max_,Builtin.max2]
   simp only[Int.max_def];repeat' split
   all_goals omega
 ·cases aj
theorem WD{o:Oper}{f:FuncId}{u5:Array Operand}{cap:List bD}{S':St}{C:bH}(ho:o.op=.makeFunc (.func f) #[] u5)(hc:cap.length=u5.size∧∀(i:Nat) x y,cap[i]?=some x→u5[i]?=some y→bX y x=true)
  (hR:R E g S a w) (hd:∀d,o.dst=some d→d<E.nt) (aj:VO.run C o.dst S (.pF f cap)=some S'):ct P E o S S' a w:=by
 have WE:∀{xs:List bD} {vs:List V},nQ S xs=some vs→vs.length=xs.length∧∀(i:Nat) (v:V),vs[i]?=some v→∃x,xs[i]?=some x∧S.ev x=some v:=by
  intro xs;induction xs with
  |nil=>intro vs h;simp[nQ]at h;subst h;simp
  |cons x xs ih =>
   intro vs h;simp only[nQ]at h;split at h
   ·rename_i v Aa h1 h2
    cases h;obtain⟨p,q⟩:=ih h2;refine⟨by simp[p],fun i u hu=>?_⟩
    cases i with
    |zero=>simp at hu;subst hu;exact⟨x,by simp,h1⟩
    |succ i=>obtain⟨z,hz,he⟩:=q i u (by simpa using hu);exact⟨z,by simpa using hz,he⟩
   ·cases h
 have WG:∀{vs us:List V},xG vs=some us→us=vs∧∀v∈vs,∃i o,v=.bN i o:=by
  intro vs;induction vs with
  |nil=>intro us h;simp[xG]at h;subst h;simp
  |cons v vs ih =>
   intro us h;unfold xG at h;split at h
   ·rename_i heq;cases heq
   ·rename_i i o Aa heq
    cases heq;split at h
    ·rename_i mi hu
     cases h;obtain⟨p,q⟩:=ih hu;subst p;exact⟨rfl,fun z hz=>by
      rcases List.mem_cons.1 hz with e|e
      ·exact⟨_,_,e⟩
      ·exact q z e⟩
    ·cases h
   ·cases h
 simp only[VO.run]at aj;split at aj
 ·rename_i vs qp
  split at aj
  ·rename_i us oD
   cases aj;obtain⟨l1,g1⟩:=WE qp;obtain⟨rfl,g2⟩:=WG oD;refine ct.put hR hd (x:=.func (.func f) #[] (u5.map a.eval)) ?_ (.fn f us _ (by simp;omega) (fun j v hj=>?_))
   ·simp[execOp,ho,Instr.makeFunc]
   ·obtain⟨i,o',e⟩:=g2 v (List.mem_of_getElem? hj)
    obtain⟨x,hx,xQ⟩:=g1 j v hj;have bF:j<u5.size:=by have:=eY hx;omega
    have hr:=cX hR (hc.2 j x u5[j] hx (by simp[bF])) xQ
    subst e;obtain⟨e2,hi⟩:=wH hr;exact⟨i,o',rfl,hi,by simp[bF,e2]⟩
  ·cases aj
 ·cases aj
end
end Go.Vm
