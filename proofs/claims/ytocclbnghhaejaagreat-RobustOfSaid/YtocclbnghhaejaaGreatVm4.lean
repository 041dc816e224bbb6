/- The value machine, 4: the operations that only compute. -/
import Derived.Test.YtocclbnghhaejaaGreatVm3
namespace Go.Vm
set_option linter.all false
def Hp:Value→V→Bool
 |.int k n,.int k' n'=>decide (k=k')&&n==n'
 |.bool b,.bool c=>b==c
 |.string s,.str l=>s.data.toList==l
 |.slice none 0 0,.bV=>true
 |.pointer none,.fY=>true
 |.nilFunc,.fZ=>true
 |.map none,.gd=>true
 |_,_=>false
def tF:List Value→List V→Bool
 |[],[]=>true
 |x::xs,v::vs=>Hp x v&&tF xs vs
 |_,_=>false
def Hq:Value→V→Bool
 |.agg xs,.agg cs=>tF xs.toList cs
 |x,v=>Hp x v
theorem QZ{X:Cx}{x:Value}{v:V}(h:Hp x v=true):aZ X v x∧v.cI=true∧∀d,v.cj d=false:=by
 unfold Hp at h;split at h
 ·simp at h;obtain⟨rfl,rfl⟩:=h
  exact⟨.plain (.int _ _) (fun _ _ _ e=>by cases e),rfl,fun _=>rfl⟩
 ·simp at h;subst h
  exact⟨.plain (.bool _) (fun _ _ _ e=>by cases e),rfl,fun _=>rfl⟩
 ·simp at h;subst h
  exact⟨.plain (.str _) (fun _ _ _ e=>by cases e),rfl,fun _=>rfl⟩
 ·exact⟨.plain .bV (fun _ _ _ e=>by cases e),rfl,fun _=>rfl⟩
 ·exact⟨.fY,rfl,fun _=>rfl⟩
 ·exact⟨.fZ,rfl,fun _=>rfl⟩
 ·exact⟨.gd,rfl,fun _=>rfl⟩
 ·cases h
theorem Ce{X:Cx}:∀{xs:List Value} {vs:List V},tF xs vs=true→vs.length=xs.length ∧
  (∀(i:Nat) (v:V) (x:Value),vs[i]?=some v→xs[i]?=some x→v.cI=true∧(∀d,v.cj d=false)∧aZ X v x)
 |[],[],_=>⟨rfl,by simp⟩
 |[],_::_,h=>by simp[tF]at h
 |_::_,[],h=>by simp[tF]at h
 |x::xs,v::vs,h=>by
  simp only[tF,Bool.and_eq_true]at h;obtain⟨h1,h2⟩:=h;obtain⟨hl,hr⟩:=Ce (X:=X) h2;refine⟨by simp[hl],fun i u y hu hy=>?_⟩
  cases i with
  |zero =>
   simp at hu hy;subst hu;subst hy;obtain⟨a,b,c⟩:=QZ (X:=X) h1;exact⟨b,c,a⟩
  |succ j=>exact hr j u y (by simpa using hu) (by simpa using hy)
theorem Q0{X:Cx}{x:Value}{v:V}(h:Hq x v=true):aZ X v x:=by
 unfold Hq at h;split at h
 ·obtain⟨hl,hr⟩:=Ce (X:=X) h
  exact .agg _ _ (by simpa using hl) (fun i v x hv hx=>(hr i v x hv (by simpa using hx)).2.2)
 ·exact(QZ h).1
def bO:Operand→bq→Bool
 |.tmp t,.t s=>t==s
 |.const v,.c u=>Hq v u
 |.func f,.c (.fn g [])=>f==g
 |_,_=>false
section
variable {P:Program} {E:Entry} {g:Gh} {S:St} {a:Act} {w:World}
theorem cQ(hR:R E g S a w){y:Operand}{x:bq}(ho:bO y x=true){v:V}(hv:S.ev x=some v):aZ (S.cx g w) v (a.eval y):=by
 unfold bO at ho;split at ho
 ·simp at ho;subst ho
  obtain⟨z,hz,hr⟩:=hR.env _ v hv;simp only[Act.eval];simpa [hz] using hr
 ·simp only[St.ev,Option.some.injEq]at hv;subst hv
  exact Q0 ho
 ·simp at ho;subst ho
  simp only[St.ev,Option.some.injEq]at hv;subst hv;exact .fn _ [] #[] rfl (by simp)
 ·cases ho
theorem lY{X:Cx}{k:IntKind}{n:Int}{x:Value}(h:aZ X (.int k n) x):x=.int k n:=by
 cases h with|plain h _=>cases h;rfl
theorem yS{X:Cx}{b:Bool}{x:Value}(h:aZ X (.bool b) x):x=.bool b:=by
 cases h with|plain h _=>cases h;rfl
theorem sJ{X:Cx}{n:Nat}{x:Value}(h:aZ X (.dR n) x):la x:=by
 cases h with
 |plain h _=>cases h
 |dR h=>exact h
theorem Eg{X:Cx}{n:Nat}{x:Value}(h:aZ X (.fu n) x):∃a cap,x=.slice (some a) 0 cap:=by
 cases h with
 |plain h _=>cases h
 |fu n a cap=>exact⟨a,cap,rfl⟩
theorem nG{X:Cx}{x:Value}(h:aZ X .bV x):x=.slice none 0 0:=by
 cases h with|plain h _=>cases h;rfl
theorem ab7{X:Cx}{l:List UInt8}{x:Value}(h:aZ X (.str l) x):∃s:ByteArray,x=.string s∧s.data.toList=l:=by
 cases h with|plain h _=>cases h;exact⟨_,rfl,rfl⟩
theorem yT{X:Cx}{id off:Nat}{x:Value}(h:aZ X (.bf id off) x):x=.pointer (some ⟨X.g.κ id,off,none⟩):=by
 cases h with
 |plain h _=>cases h
 |bf=>rfl
theorem yU{X:Cx}{i off:Nat}{x:Value}(h:aZ X (.bG i off) x):x=.pointer (some ⟨X.g.γ i,off,none⟩)∧i<X.N:=by
 cases h with
 |plain h _=>cases h
 |bG _ _ h=>exact⟨rfl,h⟩
theorem Hr{X:Cx}{i s n:Nat}{x:Value}(h:aZ X (.dh i s n) x):i<X.N∧((∃cap,n≤cap∧x=.slice (some ⟨X.g.γ i,0,none⟩) n cap)∨n=0∧la x):=by
 cases h with
 |plain h _=>cases h
 |dh _ _ _ cap h hl=>exact⟨h,.inl ⟨cap,hl,rfl⟩⟩
 |uN _ _ h hz=>exact⟨h,.inr ⟨rfl,hz⟩⟩
theorem ab8{X:Cx}{id s off n:Nat}{x:Value}(h:aZ X (.fh id s off n) x):∃cap,n≤cap∧x=.slice (some ⟨X.g.κ id,off*s,none⟩) n cap:=by
 cases h with
 |plain h _=>cases h
 |fh _ _ _ _ cap h=>exact⟨cap,h,rfl⟩
theorem pO{X:Cx}{id s n:Nat}{x:Value}(h:aZ X (.bQ id s n) x):(∃cap,n≤cap∧cap*s=X.g.cp id∧x=.slice (some ⟨X.g.κ id,0,none⟩) n cap)∨n=0∧la x∧X.g.cp id=0:=by
 cases h with
 |plain h _=>cases h
 |bQ _ _ _ cap h hc=>exact .inl ⟨cap,h,hc,rfl⟩
 |pM _ _ h hc=>exact .inr ⟨rfl,h,hc⟩
theorem pP{X:Cx}{cs:List V}{x:Value}(h:aZ X (.agg cs) x) :
  ∃xs:Array Value,x=.agg xs∧cs.length=xs.size∧∀(i:Nat) (v:V) (y:Value),cs[i]?=some v→xs[i]?=some y→aZ X v y:=by
 cases h with
 |plain h _=>cases h
 |agg _ xs hl hx=>exact⟨xs,rfl,hl,hx⟩
theorem ab9{X:Cx}{cs:List V}{x:Value}(h:aZ X (.tuple cs) x) :
  ∃xs:Array Value,x=.tuple xs∧cs.length=xs.size∧∀(i:Nat) (v:V) (y:Value),cs[i]?=some v→xs[i]?=some y→aZ X v y:=by
 cases h with
 |plain h _=>cases h
 |tuple _ xs hl hx=>exact⟨xs,rfl,hl,hx⟩
theorem aZ.int{X:Cx}(k:IntKind)(n:Int):aZ X (.int k n) (.int k n):=.plain (.int k n) (fun _ _ _ e=>by cases e)
theorem aZ.bool{X:Cx}(b:Bool):aZ X (.bool b) (.bool b):=.plain (.bool b) (fun _ _ _ e=>by cases e)
structure PW(X:Cx)(cs:List V)(xs:List Value):Prop where
 len:cs.length=xs.length
 at_:∀(i:Nat) (v:V) (y:Value),cs[i]?=some v→xs[i]?=some y→aZ X v y
theorem fg.AD{h:Array Obj}{m:Nat→Nat}{v:V}{x:Value}(hr:fg h m v x):x.oneCell'=true:=by
 cases hr<;>rfl
theorem KQ{X:Cx}{v:V}{x:Value}(h:aZ X v x)(hc:v.cI=true):x.oneCell'=true:=by
 cases h with
 |plain h _=>exact h.AD
 |fm h=>exact h.AD
 |dR h=>rcases h with rfl | ⟨a,rfl⟩<;>rfl
 |pM _ _ h _=>rcases h with rfl | ⟨a,rfl⟩<;>rfl
 |uN _ _ _ h=>rcases h with rfl | ⟨a,rfl⟩<;>rfl
 |undef=>simp[V.cI]at hc
 |agg=>simp[V.cI]at hc
 |tuple=>simp[V.cI]at hc
 |_=>rfl
theorem fg.cells{h:Array Obj}{m:Nat→Nat}{v:V}{x:Value}(hr:fg h m v x):x.cells = #[x]:=by
 cases hr<;>rfl
theorem Cf{X:Cx}{v:V}{x:Value}(h:aZ X v x)(hu:∀u∈v.cells,u.cI=true):PW X v.cells x.cells.toList:=by
 cases h with
 |undef=>exact absurd (hu .undef (by simp[V.cells])) (by simp[V.cI])
 |plain h ht =>
  have hx:=h.cells;have hv:v.cells=[v]:=by cases h<;>rfl
  rw[hv,hx];refine⟨rfl,fun i u y hu hy=>?_⟩;cases i with
  |zero=>simp at hu hy;subst hu;subst hy;exact .plain h ht
  |succ j=>simp at hu
 |dR h =>
  refine⟨by rcases h with rfl | ⟨a,rfl⟩<;>rfl,fun i u y hu hy=>?_⟩
  have hx:x.cells = #[x]:=by rcases h with rfl | ⟨a,rfl⟩<;>rfl
  rw[hx]at hy;cases i with
  |zero=>simp[V.cells]at hu hy;subst hu;subst hy;exact .dR h
  |succ j=>simp[V.cells]at hu
 |fu n a cap=>exact⟨rfl,fun i u y hu hy=>by cases i with|zero=>(simp[V.cells,Value.cells]at hu hy;subst hu;subst hy;exact .fu n a cap)|succ j=>simp[V.cells]at hu⟩
 |fm h =>
  rename_i n es;have hx:=h.cells;have hv:(V.fm n es).cells=[.fm n es]:=rfl;rw[hv,hx];refine⟨rfl,fun i u y hu hy=>?_⟩;cases i with
  |zero=>simp at hu hy;subst hu;subst hy;exact .fm h
  |succ j=>simp at hu
 |agg cs xs hl hx=>exact⟨by simpa [V.cells,Value.cells] using hl,fun i u y hu hy=>hx i u y hu (by simpa [Value.cells] using hy)⟩
 |tuple cs xs hl hx=>exact absurd (hu (.tuple cs) (by simp[V.cells])) (by simp[V.cI])
 |bf id off=>exact⟨rfl,fun i u y hu hy=>by cases i with|zero=>(simp[V.cells,Value.cells]at hu hy;subst hu;subst hy;exact .bf id off)|succ j=>simp[V.cells]at hu⟩
 |bQ id off n cap h hc=>exact⟨rfl,fun i u y hu hy=>by cases i with|zero=>(simp[V.cells,Value.cells]at hu hy;subst hu;subst hy;exact .bQ id off n cap h hc)|succ j=>simp[V.cells]at hu⟩
 |bG i off h=>exact⟨rfl,fun i u y hu hy=>by cases i with|zero=>(simp[V.cells,Value.cells]at hu hy;subst hu;subst hy;exact .bG _ off h)|succ j=>simp[V.cells]at hu⟩
 |fh id s off n cap h=>exact⟨rfl,fun i u y hu hy=>by cases i with|zero=>(simp[V.cells,Value.cells]at hu hy;subst hu;subst hy;exact .fh id s off n cap h)|succ j=>simp[V.cells]at hu⟩
 |dh i s n cap h hl=>exact⟨rfl,fun i u y hu hy=>by cases i with|zero=>(simp[V.cells,Value.cells]at hu hy;subst hu;subst hy;exact .dh _ s n cap h hl)|succ j=>simp[V.cells]at hu⟩
 |pM id s h hc =>
  refine⟨by rcases h with rfl | ⟨a,rfl⟩<;>rfl,fun i u y hu hy=>?_⟩
  have hx:x.cells = #[x]:=by rcases h with rfl | ⟨a,rfl⟩<;>rfl
  rw[hx]at hy;cases i with
  |zero=>simp[V.cells]at hu hy;subst hu;subst hy;exact .pM id s h hc
  |succ j=>simp[V.cells]at hu
 |uN k s h hz =>
  refine⟨by rcases hz with rfl | ⟨a,rfl⟩<;>rfl,fun i u y hu hy=>?_⟩
  have hx:x.cells = #[x]:=by rcases hz with rfl | ⟨a,rfl⟩<;>rfl
  rw[hx]at hy;cases i with
  |zero=>simp[V.cells]at hu hy;subst hu;subst hy;exact .uN k s h hz
  |succ j=>simp[V.cells]at hu
 |fY=>exact⟨rfl,fun i u y hu hy=>by cases i with|zero=>(simp[V.cells,Value.cells]at hu hy;subst hu;subst hy;exact .fY)|succ j=>simp[V.cells]at hu⟩
 |eR row off b o ys hb hc hv hp hm=>exact⟨rfl,fun i u y hu hy=>by cases i with|zero=>(simp[V.cells,Value.cells]at hu hy;subst hu;subst hy;exact .eR row off b o ys hb hc hv hp hm)|succ j=>simp[V.cells]at hu⟩
 |fn f cap xs hl hx=>exact⟨rfl,fun i u y hu hy=>by cases i with|zero=>(simp[V.cells,Value.cells]at hu hy;subst hu;subst hy;exact .fn f cap xs hl hx)|succ j=>simp[V.cells]at hu⟩
 |fZ=>exact⟨rfl,fun i u y hu hy=>by cases i with|zero=>(simp[V.cells,Value.cells]at hu hy;subst hu;subst hy;exact .fZ)|succ j=>simp[V.cells]at hu⟩
 |map i h=>exact⟨rfl,fun i u y hu hy=>by cases i with|zero=>(simp[V.cells,Value.cells]at hu hy;subst hu;subst hy;exact .map _ h)|succ j=>simp[V.cells]at hu⟩
 |gd=>exact⟨rfl,fun i u y hu hy=>by cases i with|zero=>(simp[V.cells,Value.cells]at hu hy;subst hu;subst hy;exact .gd)|succ j=>simp[V.cells]at hu⟩
theorem KR{X:Cx}{v:V}{x:Value}(h:aZ X v x):aZ X v.ko x:=by
 cases h with
 |fm h=>exact .plain h (fun _ _ _ e=>by cases e)
 |dR h=>exact .dR h
 |fu n a cap=>exact .fu n a cap
 |plain h t=>cases h<;>exact .plain (by first|exact .int _ _|exact .bool _|exact .str _|exact .bV|exact .nil _ _|exact .empty _ _ _ _|(rename_i a b c d e f g i;exact .slice _ _ _ _ _ _ _ (by assumption) (by assumption) (by assumption) (by assumption) (by assumption) (by assumption) (by assumption))) t
 |undef=>exact .undef
 |bf=>exact .bf _ _
 |bQ _ _ _ _ h hc=>exact .bQ _ _ _ _ h hc
 |bG _ _ h=>exact .bG _ _ h
 |pM _ _ h hc=>exact .pM _ _ h hc
 |fh _ _ _ _ _ h=>exact .fh _ _ _ _ _ h
 |dh _ _ _ _ h hl=>exact .dh _ _ _ _ h hl
 |uN _ _ h hz=>exact .uN _ _ h hz
 |fY=>exact .fY
 |eR row off b o ys hb hc hv hp hm=>exact .eR row off b o ys hb hc hv hp hm
 |fn f cap xs hl hx=>exact .fn f cap xs hl hx
 |fZ=>exact .fZ
 |map _ h=>exact .map _ h
 |gd=>exact .gd
 |agg cs xs hl hx=>exact .agg cs xs hl hx
 |tuple cs xs hl hx=>exact .tuple cs xs hl hx
theorem Q1{X:Cx}{v:V}{x:Value}(h:aZ X v x):aZ X v.kX x:=by
 have key:(∃cs,v=.agg cs)∨v.kX=v.ko:=by
  cases v<;>first|(left;exact⟨_,rfl⟩)|(right;rfl)
 rcases key with⟨cs,rfl⟩ | e
 ·obtain⟨xs,e,hl,hx⟩:=pP h
  subst e;refine .agg _ _ (by simpa using hl) (fun i u y hu hy=>?_)
  rw[List.getElem?_map]at hu;cases hc:cs[i]? with
  |none=>simp[hc]at hu
  |some z =>
   simp[hc]at hu;subst hu;exact KR (hx i z y hc hy)
 ·rw[e];exact KR h
theorem aca{X:Cx}{r:jx}{v:V}{x:Value}(h:aZ X v x):aZ X (Av r v) x:=by
 cases r
 ·exact h
 ·exact Q1 h
 ·exact h
def cb(P:Program)(E:Entry)(o:Oper)(S:St)(S':St)(a:Act)(w:World):Prop :=
 ∀(K:Act→World→Prop) (Q:Exit→Act→World→Prop),(∀g' a' w',R E g' S' a' w'→K a' w')→o.wp P a w K Q
theorem cb.value{o:Oper}{S S':St}{x:Value}{g':Gh}{w':World}(ah:(execOp a.eval o).run P w=.ok (.value x) w')(hR:R E g' S' (a.put o.dst x) w') :
  cb P E o S S' a w:=fun K Q hK=>by
 unfold Oper.wp;rw[ah,Oper.upon_value];exact hK _ _ _ hR
theorem cb.skip{o:Oper}{S S':St}{g':Gh}{w':World}(ah:(execOp a.eval o).run P w=.ok .skip w')(hd:o.dst=none)(hR:R E g' S' a w') :
  cb P E o S S' a w:=fun K Q hK=>by
 unfold Oper.wp;rw[ah,Oper.upon_skip,hd];exact hK _ _ _ hR
theorem cb.put{o:Oper}{v:V}{x:Value}(hR:R E g S a w)(hd:∀d,o.dst=some d→d<E.nt)
  (ah:(execOp a.eval o).run P w=.ok (.value x) w) (hx:aZ (S.cx g w) v x):cb P E o S (S.put o.dst v) a w :=
 .value ah (hR.put hd hx)
theorem Q2{o:Oper}{y:Operand}{x:bq}{S':St}{C:bw}(ho:o.op=.move y∨o.op=.assign y)(hx:bO y x=true)(hR:R E g S a w)
  (hd:∀d,o.dst=some d→d<E.nt) (ah:VO.run C o.dst S (.mv x)=some S'):cb P E o S S' a w:=by
 simp only[VO.run]at ah;split at ah
 ·rename_i v hv
  cases ah;refine cb.put hR hd (x:=a.eval y) ?_ (cQ hR hx hv);rcases ho with ho|ho<;>simp[execOp,ho]
 ·cases ah
theorem acb{o:Oper}{c p q:Operand}{c' p' q':bq}{S':St}{C:bw}(ho:o.op=.pick c p q)(hc:bO c c'=true)(hp:bO p p'=true)(hq:bO q q'=true)
  (hR:R E g S a w) (hd:∀d,o.dst=some d→d<E.nt) (ah:VO.run C o.dst S (.pick c' p' q')=some S'):cb P E o S S' a w:=by
 simp only[VO.run]at ah;split at ah
 ·rename_i t ht
  split at ah
  ·rename_i v hv
   cases ah;have h1:=yS (cQ hR hc ht);refine cb.put hR hd (x:=if t then a.eval p else a.eval q) ?_ ?_
   ·simp[execOp,ho,h1,asBool]
   ·cases t
    ·exact cQ hR hq hv
    ·exact cQ hR hp hv
  ·cases ah
 ·cases ah
theorem acd(op:BinOp)(t:TypeId)(x y:Operand)(k k':IntKind)(m n:Int):(eqGuard op t x y (.int k m) (.int k' n)).run P w=.ok () w:=by
 unfold eqGuard;split<;>simp
theorem ace(op:BinOp)(t:TypeId)(x y:Operand)(m n:Bool):(eqGuard op t x y (.bool m) (.bool n)).run P w=.ok () w:=by
 unfold eqGuard;split<;>simp
theorem iV{t:TypeId}{d:TypeDesc}(h:P.underlying t=some d):(underlying t).run P w=.ok d w:=by
 unfold underlying;simp[h]
omit E g S a in
theorem acf{op:BinOp}{t:TypeId}{k:IntKind}{m n:Int}{v:V}(h:Ee op k m n=some v) :
  ∃x,(binOp op t (.int k m) (.int k n)).run P w=.ok x w∧∀X:Cx,aZ X v x:=by
 unfold Ee at h;split at h
 all_goals (try (cases h;done))
 all_goals (try (split at h;· cases h))
 all_goals (cases h)
 all_goals first
  |(refine⟨_,?_,fun X=>aZ.int _ _⟩;simp[binOp,Op.intArith];done)
  |(refine⟨_,?_,fun X=>aZ.int _ _⟩;simp[binOp,Op.intDiv, *];done)
  |(refine⟨_,?_,fun X=>aZ.int _ _⟩;simp[binOp,Op.shift, *];done)
  |(refine⟨_,?_,fun X=>aZ.bool _⟩;simp[binOp,Op.intCmp];done)
theorem acg{o:Oper}{op:BinOp}{t t':TypeId}{p q:Operand}{x y:bq}{S':St}{C:bw}(ho:o.op=.binOp op t p q t')(hp:bO p x=true)(hq:bO q y=true)
  (hR:R E g S a w) (hd:∀d,o.dst=some d→d<E.nt) {k:IntKind} {m:Int} {k':IntKind} {n:Int} (h1:S.ev x=some (.int k m)) (h2:S.ev y=some (.int k' n))
  (ah:VO.run C o.dst S (.bin op x y)=some S'):cb P E o S S' a w:=by
 simp only[VO.run,h1,h2,V.bin]at ah;by_cases hk:k=k'
 ·subst hk
  simp only[decide_true,cond_true]at ah;split at ah
  ·rename_i v hv
   cases ah;have e1:=lY (cQ hR hp h1);have e2:=lY (cQ hR hq h2);obtain⟨z,hz,hx⟩:=acf (P:=P) (w:=w) (t:=t) hv;refine cb.put hR hd (x:=z) ?_ (hx _);simp[execOp,ho,e1,e2,acd,hz]
  ·cases ah
 ·simp[hk]at ah
theorem ach{t:TypeId}(ht:P.underlying t=some .bool)(m n:Bool):(Op.equal t (.bool m) (.bool n)).run P w=.ok (m==n) w:=by
 unfold Op.equal;rw[show Op.maxDepth=9999+1 from rfl,Op.equalIn];simp[iV ht]
theorem aci{o:Oper}{neg:Bool}{t t':TypeId}{p q:Operand}{x y:bq}{S':St}{C:bw}(ho:o.op=.binOp (if neg then .neq else .eql) t p q t')(ht:P.underlying t=some .bool)(hp:bO p x=true)(hq:bO q y=true)
  (hR:R E g S a w) (hd:∀d,o.dst=some d→d<E.nt) (ah:VO.run C o.dst S (.beq neg x y)=some S'):cb P E o S S' a w:=by
 simp only[VO.run]at ah;split at ah
 ·rename_i m n h1 h2
  cases ah;have e1:=yS (cQ hR hp h1);have e2:=yS (cQ hR hq h2);refine cb.put hR hd (x:=.bool (bif neg then m != n else m==n)) ?_ (aZ.bool _);cases neg<;>simp[execOp,ho,e1,e2,ace,binOp,ach ht];cases m<;>cases n<;>rfl
 ·cases ah
theorem acj{o:Oper}{op:BinOp}{t t':TypeId}{p q:Operand}{x y:bq}{S':St}{C:bw}(ho:o.op=.binOp op t p q t')(hp:bO p x=true)(hq:bO q y=true)
  (hR:R E g S a w) (hd:∀d,o.dst=some d→d<E.nt) (ah:VO.run C o.dst S (.bin op x y)=some S'):cb P E o S S' a w:=by
 have AE:=ah;simp only[VO.run]at ah;split at ah
 ·rename_i u v h1 h2
  split at ah
  ·rename_i z hz
   unfold V.bin at hz;split at hz
   ·exact acg ho hp hq hR hd h1 h2 AE
   ·cases hz
  ·cases ah
 ·cases ah
theorem ack{o:Oper}{op:UnOp}{t:TypeId}{p:Operand}{x:bq}{S':St}{C:bw}(ho:o.op=.unOp op t p)(hp:bO p x=true)
  (hR:R E g S a w) (hd:∀d,o.dst=some d→d<E.nt) (ah:VO.run C o.dst S (.un op x)=some S'):cb P E o S S' a w:=by
 simp only[VO.run]at ah;split at ah
 ·rename_i u hu
  have hr:=cQ hR hp hu;split at ah
  ·rename_i v hv
   cases ah;unfold V.un at hv;split at hv
   ·have e:=yS hr
    split at hv<;>cases hv;refine cb.put hR hd (x:=_) ?_ (aZ.bool _);simp[execOp,ho,e,Op.unary]
    try rfl
   ·have e:=lY hr
    split at hv<;>cases hv;refine cb.put hR hd (x:=_) ?_ (aZ.int _ _);simp[execOp,ho,e,Op.unary,Op.intArith]
    try rfl
   ·cases hv
  ·cases ah
 ·cases ah
theorem acm{o:Oper}{s t:TypeId}{k:IntKind}{d:TypeDesc}{p:Operand}{x:bq}{S':St}{C:bw}(ho:o.op=.convert s t p)(hs:P.underlying s=some d)(ht:P.underlying t=some (.int k))(hp:bO p x=true)
  (hR:R E g S a w) (hd:∀d,o.dst=some d→d<E.nt) (ah:VO.run C o.dst S (.conv k x)=some S'):cb P E o S S' a w:=by
 simp only[VO.run]at ah;split at ah
 ·rename_i j n hn
  cases ah;have e:=lY (cQ hR hp hn);refine cb.put hR hd (x:=_) ?_ (aZ.int _ _);simp[execOp,ho,e,convert,iV hs,iV ht,Conv.intToInt]
  try rfl
 ·cases ah
theorem acn{o:Oper}{p:Operand}{x:bq}{S':St}{C:bw}(ho:o.op=.nilCheck p)(hp:bO p x=true)
  (hR:R E g S a w) (hd:∀d,o.dst=some d→d<E.nt) (ah:VO.run C o.dst S (.sC x)=some S'):cb P E o S S' a w:=by
 simp only[VO.run]at ah;split at ah
 ·rename_i i f hv
  cases ah;have hr:=cQ hR hp hv;have e:=yT hr;refine cb.put hR hd (x:=_) ?_ hr;simp[execOp,ho,e]
 ·rename_i i f hv
  cases ah;have hr:=cQ hR hp hv;obtain⟨e,_⟩:=yU hr;refine cb.put hR hd (x:=_) ?_ hr;simp[execOp,ho,e]
 ·rename_i r f hv
  cases ah;have hr:=cQ hR hp hv;obtain⟨b,o',e⟩:∃b o',a.eval p=.pointer (some ⟨b,o',none⟩):=by
   generalize a.eval p=z at hr;cases hr with
   |plain h _=>cases h
   |eR _ _ b o'=>exact⟨b,_,rfl⟩
  refine cb.put hR hd (x:=_) ?_ hr;simp[execOp,ho,e]
 ·cases ah
theorem Q3{X:Cx}{v:V}{x:Value}(h:aZ X v x)(n:Nat) :
  (∀i o,v=.bf i o→∃b f,x=.pointer (some ⟨b,f,none⟩)∧aZ X (.bf i (o+n)) (.pointer (some ⟨b,f+n,none⟩))) ∧
  (∀i o,v=.bG i o→∃b f,x=.pointer (some ⟨b,f,none⟩)∧aZ X (.bG i (o+n)) (.pointer (some ⟨b,f+n,none⟩))) ∧
  (∀r o,v=.eR r o→∃b f,x=.pointer (some ⟨b,f,none⟩)∧aZ X (.eR r (o+n)) (.pointer (some ⟨b,f+n,none⟩))):=by
 refine⟨fun i o e=>?_,fun i o e=>?_,fun r o e=>?_⟩
 ·subst e;rw[yT h];exact⟨_,_,rfl,.bf _ _⟩
 ·subst e;obtain⟨e,hi⟩:=yU h;rw[e];exact⟨_,_,rfl,.bG _ _ hi⟩
 ·subst e
  cases h with
  |plain h _=>cases h
  |eR _ _ b o' ys hb hc hv hp hm=>exact⟨_,_,rfl,by rw[Nat.add_assoc];exact .eR r (o+n) b o' ys hb hc hv hp hm⟩
theorem kG(b f n:Nat):(⟨b,f,none⟩:Addr).add n=⟨b,f+n,none⟩:=by
 unfold Addr.add;split
 ·simp[*]
 ·rfl
theorem nH{t:TypeId}{n:Nat}(h:(P.info? t).map (·.size)=some n):(sizeOf t).run P w=.ok n w:=by
 cases hi:P.info? t with
 |none=>simp[hi]at h
 |some i=>simp[hi]at h;simp[sizeOf,typeInfo,hi,h]
theorem aco{o:Oper}{s:TypeId}{fi off:Nat}{fs:Array Field}{f:Field}{n:Nat}{p:Operand}{x:bq}{S':St}{C:bw}(ho:o.op=.fieldAddr s p fi)(hs:P.underlying s=some (.struct fs))
  (hf:fs[fi]?=some f) (hn:(P.info? f.type).map (·.size)=some n) (h0:n≠0) (iW:f.offset=off) (hp:bO p x=true)
  (hR:R E g S a w) (hd:∀d,o.dst=some d→d<E.nt) (ah:VO.run C o.dst S (.ri off x)=some S'):cb P E o S S' a w:=by
 simp only[VO.run]at ah;split at ah
 all_goals first|(cases ah;done)|skip
 all_goals
  rename_i hv;cases ah;obtain⟨m1,m2,m3⟩:=Q3 (cQ hR hp hv) off
 ·obtain⟨b,q,e,hr⟩:=m1 _ _ rfl
  refine cb.put hR hd (x:=_) ?_ hr;simp[execOp,ho,e,Instr.fieldAt,iV hs,hf,Instr.sureAddr,fieldPlace,nH hn,h0,iW,kG]
 ·obtain⟨b,q,e,hr⟩:=m2 _ _ rfl
  refine cb.put hR hd (x:=_) ?_ hr;simp[execOp,ho,e,Instr.fieldAt,iV hs,hf,Instr.sureAddr,fieldPlace,nH hn,h0,iW,kG]
 ·obtain⟨b,q,e,hr⟩:=m3 _ _ rfl
  refine cb.put hR hd (x:=_) ?_ hr;simp[execOp,ho,e,Instr.fieldAt,iV hs,hf,Instr.sureAddr,fieldPlace,nH hn,h0,iW,kG]
theorem acp{o:Oper}{t:TypeId}{len:Nat}{el:TypeId}{sz:Nat}{p q:Operand}{x i:bq}{S':St}{C:bw}(ho:o.op=.indexAddr t p q)(ht:P.underlying t=some (.array len el))
  (hn:(P.info? el).map (·.size)=some sz) (hp:bO p x=true) (hq:bO q i=true)
  (hR:R E g S a w) (hd:∀d,o.dst=some d→d<E.nt) (ah:VO.run C o.dst S (.na (some len) sz x i)=some S'):cb P E o S S' a w:=by
 simp only[VO.run]at ah;split at ah
 ·rename_i u k m hu hm
  have e2:=lY (cQ hR hq hm);cases hc:(decide (0≤m)&&decide (m<(len:Int))) with
  |false=>simp[hc]at ah
  |true =>
   simp only[hc,cond_true]at ah;simp only[Bool.and_eq_true,decide_eq_true_eq]at hc;have hr:=cQ hR hp hu;obtain⟨m1,m2,m3⟩:=Q3 hr (m.toNat*sz);split at ah<;>first|(cases ah;done)|skip
   all_goals cases ah
   ·obtain⟨b,f,e,hx⟩:=m1 _ _ rfl
    refine cb.put hR hd (x:=_) ?_ hx;simp[execOp,ho,e,e2,Instr.indexAt,asIntOf,iV ht,Instr.sureAddr,nH hn,hc,kG]
   ·obtain⟨b,f,e,hx⟩:=m2 _ _ rfl
    refine cb.put hR hd (x:=_) ?_ hx;simp[execOp,ho,e,e2,Instr.indexAt,asIntOf,iV ht,Instr.sureAddr,nH hn,hc,kG]
   ·obtain⟨b,f,e,hx⟩:=m3 _ _ rfl
    refine cb.put hR hd (x:=_) ?_ hx;simp[execOp,ho,e,e2,Instr.indexAt,asIntOf,iV ht,Instr.sureAddr,nH hn,hc,kG]
 ·cases ah
theorem eK{α:Type}{l:List α}{i:Nat}{x:α}(h:l[i]?=some x):i<l.length:=by
 rcases Nat.lt_or_ge i l.length with h' | h'
 ·exact h'
 ·simp[List.getElem?_eq_none h']at h
theorem acq{o:Oper}{t:TypeId}{el:TypeId}{sz:Nat}{p q:Operand}{x i:bq}{S':St}{C:bw}(ho:o.op=.indexAddr t p q)(ht:P.underlying t=some (.slice el))
  (hn:(P.info? el).map (·.size)=some sz) (hp:bO p x=true) (hq:bO q i=true)
  (hR:R E g S a w) (hd:∀d,o.dst=some d→d<E.nt) (ah:VO.run C o.dst S (.na none sz x i)=some S'):cb P E o S S' a w:=by
 simp only[VO.run]at ah;split at ah
 ·rename_i tk m es k z hu hm
  have e2:=lY (cQ hR hq hm);cases hc:(decide (0≤z)&&(m==sz)) with
  |false=>simp[hc]at ah
  |true =>
   simp only[hc,cond_true]at ah;simp only[Bool.and_eq_true,decide_eq_true_eq,beq_iff_eq]at hc;obtain⟨hz,rfl⟩:=hc;split at ah
   ·rename_i row iM
    cases ah;have bA:=eK iM;have hr:=cQ hR hp hu;obtain⟨b,off,cap,ys,e,hb,eA,h1,h2,h3,h3p,h4⟩:∃(b off cap:Nat) (ys:Nat→Nat→Value),a.eval p=.slice (some ⟨b,off,none⟩) es.length cap∧b<w.heap.size∧es.length≤cap ∧
      (∀(i:Nat) (row:List V),es[i]?=some row→row.length=m) ∧
      (∀(i:Nat) (row:List V) (j:Nat) (v:V),es[i]?=some row→row[j]?=some v→cellAt w.heap b (off+i*m+j)=some (ys i j)) ∧
      (∀(i:Nat) (row:List V) (j:Nat) (v:V),es[i]?=some row→row[j]?=some v→fg w.heap g.m v (ys i j)) ∧
      (∀(i:Nat) (row:List V) (j:Nat) (v:V),es[i]?=some row→row[j]?=some v→v.plain=true)∧off+es.length*m≤g.m b:=by
     generalize a.eval p=y at hr;cases hr with
     |plain h _ =>
      cases h with
      |nil=>simp at bA
      |empty=>simp at bA
      |slice _ _ _ b off cap ys hb eA iM hc hv hp hm=>exact⟨b,off,cap,ys,rfl,hb,eA,iM,hc,hv,hp,hm⟩
    refine cb.put hR hd (x:=.pointer (some ⟨b,off+z.toNat*m,none⟩)) ?_ ?_
    ·have wZ:z<(es.length:Int):=by omega
     simp[execOp,ho,e,e2,Instr.indexAt,asIntOf,iV ht,nH hn,hz,wZ,kG]
    ·refine .eR row 0 b (off+z.toNat*m) (ys z.toNat) hb (fun j v hj=>h2 _ row j v iM hj) (fun j v hj=>h3 _ row j v iM hj) (fun j v hj=>h3p _ row j v iM hj) ?_
     have:=h1 _ row iM;have h5:z.toNat*m+m≤es.length*m:=by
      have:=Nat.mul_le_mul_right m bA;rw[Nat.succ_mul]at this;exact this
     show off+z.toNat*m+row.length≤g.m b;omega
   ·cases ah
 ·rename_i id off len k z hu hm
  have e2:=lY (cQ hR hq hm);cases hc:(decide (0≤z)&&decide (z<(len:Int))&&(off==sz)) with
  |false=>simp[hc]at ah
  |true =>
   simp only[hc,cond_true]at ah;simp only[Bool.and_eq_true,decide_eq_true_eq]at hc;cases ah;have hr:=cQ hR hp hu;rcases pO hr with⟨cap,eA,_,hy⟩ | ⟨h0,_⟩
   ·refine cb.put hR hd (x:=.pointer (some ⟨g.κ id,z.toNat*sz,none⟩)) ?_ (.bf _ _)
    simp[execOp,ho,hy,e2,Instr.indexAt,asIntOf,iV ht,nH hn,hc.1,kG];rfl
   ·omega
 ·rename_i id off len k z hu hm
  have e2:=lY (cQ hR hq hm);cases hc:(decide (0≤z)&&decide (z<(len:Int))&&(off==sz)) with
  |false=>simp[hc]at ah
  |true =>
   simp only[hc,cond_true]at ah;simp only[Bool.and_eq_true,decide_eq_true_eq]at hc;cases ah;have hr:=cQ hR hp hu;obtain⟨hi,⟨cap,eA,hy⟩ | ⟨h0,_⟩⟩:=Hr hr
   ·refine cb.put hR hd (x:=.pointer (some ⟨g.γ id,z.toNat*sz,none⟩)) ?_ (.bG _ _ hi)
    simp[execOp,ho,hy,e2,Instr.indexAt,asIntOf,iV ht,nH hn,hc.1,kG];rfl
   ·omega
 ·cases ah
theorem acr{o:Oper}{t e:TypeId}{ts:Array TypeId}{p:Operand}{x:bq}{S':St}{C:bw}(ho:o.op=.call ⟨.builtin .len,#[p],ts⟩)(qq:ts[0]?=some t)
  (ht:P.underlying t=some (.slice e)) (hp:bO p x=true)
  (hR:R E g S a w) (hd:∀d,o.dst=some d→d<E.nt) (ah:VO.run C o.dst S (.len x)=some S'):cb P E o S S' a w:=by
 have go:∀(v:V) (n:Nat),S.ev x=some v→(∃q cap,a.eval p=.slice q n cap)→cb P E o S (S.put o.dst (.int .i64 n)) a w:=by
  intro v n hv ⟨q,cap,e⟩;refine cb.put hR hd (x:=.int .i64 n) ?_ (aZ.int _ _);simp[execOp,ho,resolve,invoke,builtin,Builtin.len_,qq,e,iV ht,goInt]
 simp only[VO.run]at ah;split at ah
 ·rename_i hv
  cases ah;exact go _ 0 hv ⟨none,0,nG (cQ hR hp hv)⟩
 ·rename_i n hv
  cases ah;refine go _ 0 hv ?_;rcases sJ (cQ hR hp hv) with e | ⟨a,e⟩
  ·exact⟨_,_,e⟩
  ·exact⟨_,_,e⟩
 ·rename_i n hv
  cases ah;refine go _ 0 hv ?_;obtain⟨a,cap,e⟩:=Eg (cQ hR hp hv);exact⟨_,_,e⟩
 ·rename_i tk n es hv
  cases ah;have hr:=cQ hR hp hv;refine go _ _ hv ?_;generalize a.eval p=y at hr;cases hr with
  |plain h _=>cases h with
   |nil=>exact⟨none,0,rfl⟩
   |empty _ _ a cap=>exact⟨some a,cap,rfl⟩
   |slice=>exact⟨_,_,rfl⟩
 ·rename_i i f n hv
  cases ah;have hr:=cQ hR hp hv;refine go _ _ hv ?_;rcases pO hr with⟨cap,_,_,hy⟩ | ⟨h0,hy | ⟨a,hy⟩,_⟩
  ·exact⟨_,_,hy⟩
  ·subst h0;exact⟨_,_,hy⟩
  ·subst h0;exact⟨_,_,hy⟩
 ·rename_i i f n hv
  cases ah;have hr:=cQ hR hp hv;refine go _ _ hv ?_;obtain⟨_,⟨cap,_,hy⟩ | ⟨h0,hy | ⟨a,hy⟩⟩⟩:=Hr hr
  ·exact⟨_,_,hy⟩
  ·subst h0;exact⟨_,_,hy⟩
  ·subst h0;exact⟨_,_,hy⟩
 ·cases ah
theorem acs{o:Oper}{t e:TypeId}{ts:Array TypeId}{p:Operand}{x:bq}{S':St}{C:bw}(ho:o.op=.call ⟨.builtin .cap,#[p],ts⟩)(qq:ts[0]?=some t)
  (ht:P.underlying t=some (.slice e)) (hp:bO p x=true)
  (hR:R E g S a w) (hd:∀d,o.dst=some d→d<E.nt) (ah:VO.run C o.dst S (.uF x)=some S'):cb P E o S S' a w:=by
 simp only[VO.run]at ah;split at ah
 ·rename_i hv
  cases ah;have e:=nG (cQ hR hp hv);refine cb.put hR hd (x:=.int .i64 0) ?_ (aZ.int _ _);simp[execOp,ho,resolve,invoke,builtin,Builtin.cap_,qq,e,iV ht,goInt]
 ·cases ah
theorem acu{o:Oper}{t:TypeId}{ts:Array TypeId}{p:Operand}{x:bq}{S':St}{C:bw}(ho:o.op=.call ⟨.builtin .len,#[p],ts⟩)(qq:ts[0]?=some t)
  (ht:P.underlying t=some .string) (hp:bO p x=true)
  (hR:R E g S a w) (hd:∀d,o.dst=some d→d<E.nt) (ah:VO.run C o.dst S (.tx x)=some S'):cb P E o S S' a w:=by
 simp only[VO.run]at ah;split at ah
 ·rename_i l hv
  cases ah;obtain⟨s,e,hs⟩:=ab7 (cQ hR hp hv);refine cb.put hR hd (x:=.int .i64 l.length) ?_ (aZ.int _ _);have:s.size=l.length:=by rw[←hs];simp
  simp[execOp,ho,resolve,invoke,builtin,Builtin.len_,qq,e,iV ht,goInt,this]
 ·cases ah
theorem acv{o:Oper}{k:Nat}{p:Operand}{x:bq}{S':St}{C:bw}(ho:o.op=.extract p k)(hp:bO p x=true)
  (hR:R E g S a w) (hd:∀d,o.dst=some d→d<E.nt) (ah:VO.run C o.dst S (.ext x k)=some S'):cb P E o S S' a w:=by
 simp only[VO.run]at ah;split at ah
 ·rename_i vs hv
  split at ah
  ·rename_i v hk
   cases ah;obtain⟨xs,e,hl,hx⟩:=ab9 (cQ hR hp hv);have bA:k<xs.size:=by rw[←hl];exact eK hk
   refine cb.put hR hd (x:=xs[k]) ?_ (hx k v xs[k] hk (by simp[bA]))
   simp[execOp,ho,e,Instr.extract,bA]
  ·cases ah
 ·cases ah
theorem acw{o:Oper}{mx:Bool}{ts:Array TypeId}{p q:Operand}{x y:bq}{S':St}{C:bw}(ho:o.op=.call ⟨.builtin (if mx then .max else .min),#[p,q],ts⟩)(hp:bO p x=true)(hq:bO q y=true)
  (hR:R E g S a w) (hd:∀d,o.dst=some d→d<E.nt) (ah:VO.run C o.dst S (.mm mx x y)=some S'):cb P E o S S' a w:=by
 simp only[VO.run]at ah;split at ah
 ·rename_i k m k' n hm hn
  cases ah;have e1:=lY (cQ hR hp hm);have e2:=lY (cQ hR hq hn);refine cb.put hR hd (x:=_) ?_ (aZ.int _ _);cases mx
  ·simp[execOp,ho,e1,e2,resolve,invoke,builtin,Builtin.min_,Builtin.min2]
   rw[Int.min_def];split<;>split<;>omega
  ·simp[execOp,ho,e1,e2,resolve,invoke,builtin,Builtin.max_,Builtin.max2]
   rw[Int.max_def];split<;>split<;>omega
 ·cases ah
theorem acx{o:Oper}{mx:Bool}{ts:Array TypeId}{p q r:Operand}{x y z:bq}{S':St}{C:bw}(ho:o.op=.call ⟨.builtin (if mx then .max else .min),#[p,q,r],ts⟩)(hp:bO p x=true)(hq:bO q y=true)(hz:bO r z=true)
  (hR:R E g S a w) (hd:∀d,o.dst=some d→d<E.nt) (ah:VO.run C o.dst S (.tA mx x y z)=some S'):cb P E o S S' a w:=by
 simp only[VO.run]at ah;split at ah
 ·rename_i k m k' n k'' l hm hn hl
  cases ah;have e1:=lY (cQ hR hp hm);have e2:=lY (cQ hR hq hn);have e3:=lY (cQ hR hz hl);refine cb.put hR hd (x:=_) ?_ (aZ.int _ _);cases mx
  ·simp[execOp,ho,e1,e2,e3,resolve,invoke,builtin,Builtin.min_,Builtin.min2]
   simp only[Int.min_def];repeat' split
   all_goals omega
  ·simp[execOp,ho,e1,e2,e3,resolve,invoke,builtin,Builtin.max_,Builtin.max2]
   simp only[Int.max_def];repeat' split
   all_goals omega
 ·cases ah
theorem acy{o:Oper}{f:FuncId}{w5:Array Operand}{cap:List bq}{S':St}{C:bw}(ho:o.op=.makeFunc (.func f) #[] w5)(hc:cap.length=w5.size∧∀(i:Nat) x y,cap[i]?=some x→w5[i]?=some y→bO y x=true)
  (hR:R E g S a w) (hd:∀d,o.dst=some d→d<E.nt) (ah:VO.run C o.dst S (.uJ f cap)=some S'):cb P E o S S' a w:=by
 have acz:∀{xs:List bq} {vs:List V},ox S xs=some vs→vs.length=xs.length∧∀(i:Nat) (v:V),vs[i]?=some v→∃x,xs[i]?=some x∧S.ev x=some v:=by
  intro xs;induction xs with
  |nil=>intro vs h;simp[ox]at h;subst h;simp
  |cons x xs ih =>
   intro vs h;simp only[ox]at h;split at h
   ·rename_i v Cg h1 h2
    cases h;obtain⟨p,q⟩:=ih h2;refine⟨by simp[p],fun i u hu=>?_⟩
    cases i with
    |zero=>simp at hu;subst hu;exact⟨x,by simp,h1⟩
    |succ i=>obtain⟨z,hz,he⟩:=q i u (by simpa using hu);exact⟨z,by simpa using hz,he⟩
   ·cases h
 have acA:∀{vs us:List V},Ax vs=some us→us=vs∧∀v∈vs,∃i o,v=.bG i o:=by
  intro vs;induction vs with
  |nil=>intro us h;simp[Ax]at h;subst h;simp
  |cons v vs ih =>
   intro us h;unfold Ax at h;split at h
   ·rename_i heq;cases heq
   ·rename_i i o Cg heq
    cases heq;split at h
    ·rename_i kH hu
     cases h;obtain⟨p,q⟩:=ih hu;subst p;exact⟨rfl,fun z hz=>by
      rcases List.mem_cons.1 hz with e|e
      ·exact⟨_,_,e⟩
      ·exact q z e⟩
    ·cases h
   ·cases h
 simp only[VO.run]at ah;split at ah
 ·rename_i vs ru
  split at ah
  ·rename_i us nI
   cases ah;obtain⟨l1,g1⟩:=acz ru;obtain⟨rfl,g2⟩:=acA nI;refine cb.put hR hd (x:=.func (.func f) #[] (w5.map a.eval)) ?_ (.fn f us _ (by simp;omega) (fun j v hj=>?_))
   ·simp[execOp,ho,Instr.makeFunc]
   ·obtain⟨i,o',e⟩:=g2 v (List.mem_of_getElem? hj)
    obtain⟨x,hx,w6⟩:=g1 j v hj;have bA:j<w5.size:=by have:=eK hx;omega
    have hr:=cQ hR (hc.2 j x w5[j] hx (by simp[bA])) w6
    subst e;obtain⟨e2,hi⟩:=yU hr;exact⟨i,o',rfl,hi,by simp[bA,e2]⟩
  ·cases ah
 ·cases ah
end
end Go.Vm
