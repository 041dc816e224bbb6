/- The value machine, 4: the operations that only compute. -/
import Derived.Test.YtcelmhaoipbdiaaGreatVm3
namespace Go.Vm
set_option linter.all false
def K8:Value→V→Bool
 |.int k n,.int k' n'=>decide (k=k')&&n==n'
 |.bool b,.bool c=>b==c
 |.string s,.str l=>s.data.toList==l
 |.slice none 0 0,.bU=>true
 |.pointer none,.gK=>true
 |.nilFunc,.gL=>true
 |.map none,.gM=>true
 |_,_=>false
def vH:List Value→List V→Bool
 |[],[]=>true
 |x::xs,v::vs=>K8 x v&&vH xs vs
 |_,_=>false
def K9:Value→V→Bool
 |.agg xs,.agg cs=>vH xs.toList cs
 |x,v=>K8 x v
theorem WZ{X:Cx}{x:Value}{v:V}(h:K8 x v=true):bf X v x∧v.cQ=true∧∀d,v.cA d=false:=by
 unfold K8 at h;split at h
 ·simp at h;obtain⟨rfl,rfl⟩:=h
  exact⟨.plain (.int _ _) (fun _ _ _ e=>by cases e),rfl,fun _=>rfl⟩
 ·simp at h;subst h
  exact⟨.plain (.bool _) (fun _ _ _ e=>by cases e),rfl,fun _=>rfl⟩
 ·simp at h;subst h
  exact⟨.plain (.str _) (fun _ _ _ e=>by cases e),rfl,fun _=>rfl⟩
 ·exact⟨.plain .bU (fun _ _ _ e=>by cases e),rfl,fun _=>rfl⟩
 ·exact⟨.gK,rfl,fun _=>rfl⟩
 ·exact⟨.gL,rfl,fun _=>rfl⟩
 ·exact⟨.gM,rfl,fun _=>rfl⟩
 ·cases h
theorem EV{X:Cx}:∀{xs:List Value} {vs:List V},vH xs vs=true→vs.length=xs.length ∧
  (∀(i:Nat) (v:V) (x:Value),vs[i]?=some v→xs[i]?=some x→v.cQ=true∧(∀d,v.cA d=false)∧bf X v x)
 |[],[],_=>⟨rfl,by simp⟩
 |[],_::_,h=>by simp[vH]at h
 |_::_,[],h=>by simp[vH]at h
 |x::xs,v::vs,h=>by
  simp only[vH,b8]at h;obtain⟨h1,h2⟩:=h;obtain⟨hl,hr⟩:=EV (X:=X) h2;refine⟨by simp[hl],fun i u y hu hy=>?_⟩
  cases i with
  |zero =>
   simp at hu hy;subst hu;subst hy;obtain⟨a,b,c⟩:=WZ (X:=X) h1;exact⟨b,c,a⟩
  |succ j=>exact hr j u y (by simpa using hu) (by simpa using hy)
theorem W0{X:Cx}{x:Value}{v:V}(h:K9 x v=true):bf X v x:=by
 unfold K9 at h;split at h
 ·obtain⟨hl,hr⟩:=EV (X:=X) h
  exact .agg _ _ (by simpa using hl) (fun i v x hv hx=>(hr i v x hv (by simpa using hx)).2.2)
 ·exact(WZ h).1
def bZ:Operand→bA→Bool
 |.tmp t,.t s=>t==s
 |.const v,.c u=>K9 v u
 |.func f,.c (.fn g [])=>f==jA g
 |_,_=>false
section
variable {P:Program} {E:Entry} {g:Gh} {S:St} {a:Act} {w:World}
theorem c9(hR:R E g S a w){y:Operand}{x:bA}(ho:bZ y x=true){v:V}(hv:S.ev x=some v):bf (S.cx g w) v (a.eval y):=by
 unfold bZ at ho;split at ho
 ·simp at ho;subst ho
  obtain⟨z,hz,hr⟩:=hR.env _ v hv;simp only[Act.eval];simpa [hz] using hr
 ·simp only[St.ev,Option.some.injEq]at hv;subst hv
  exact W0 ho
 ·simp at ho;subst ho
  simp only[St.ev,Option.some.injEq]at hv;subst hv;exact .fn _ [] #[] rfl (by simp)
 ·cases ho
def V.W1:V→V→Bool
 |.int k n,.int l m=>decide (k=l)&&decide (n=m)
 |.bool a,.bool b=>a==b
 |.str a,.str b=>a==b
 |.fn f [],.fn g []=>f==g
 |_,_=>false
def La:List V→List V→Bool
 |[],[]=>true
 |v::l,u::m=>v.W1 u&&La l m
 |_,_=>false
theorem W2:∀{l m:List V},La l m=true→l=m
 |[],[],_=>rfl
 |v::l,u::m,h=>by
  simp only[La,b8]at h;rw[W2 h.2];have h1:=h.1;unfold V.W1 at h1;split at h1<;>simp_all
 |[],_::_,h=>by cases h
 |_::_,[],h=>by cases h
def PG(T:Pk):Operand→bA→Bool
 |.global k,.c (.e8 row 0)=>T.any fun p=>p.1==k&&La p.2 row
 |_,_=>false
theorem aim{T:Pk}(hT:∀p∈T,p∈E.T)(hR:R E g S a w){y:Operand}{x:bA}(ho:PG T y x=true){v:V}(hv:S.ev x=some v):bf (S.cx g w) v (a.eval y):=by
 unfold PG at ho;split at ho
 ·rename_i k row
  simp only[Be,b8,eg]at ho;obtain⟨⟨k',row'⟩,h1,rfl,h2⟩:=ho;obtain rfl:=W2 h2;simp only[St.ev,Option.some.injEq]at hv;subst hv;obtain⟨h3,h4,h5⟩:=hR.pk k' row' (hT _ h1);simp only[Act.eval];have h6:∀j,∃y,∀v,row'[j]?=some v→v.plain=true∧cellAt w.heap k' j=some y∧fF w.heap g.m v y:=fun j=>by
   cases hj:row'[j]? with
   |none=>exact⟨Go.undef,fun v h=>by cases h⟩
   |some v =>
    obtain⟨a1,y,a2,a3⟩:=h5 j v hj;exact⟨y,fun u h=>by cases h;exact⟨a1,a2,a3⟩⟩
  have:=bf.e8 (X:=S.cx g w) row' 0 k' 0 (fun j=>(h6 j).choose) h3 (fun j v hj=>by rw[kz];exact((h6 j).choose_spec v hj).2.1) (fun j v hj=>((h6 j).choose_spec v hj).2.2) (fun j v hj=>((h6 j).choose_spec v hj).1) (by rw[kz];exact h4)
  simpa using this
 ·cases ho
theorem nh{X:Cx}{k:IntKind}{n:Int}{x:Value}(h:bf X (.int k n) x):x=.int k n:=by
 cases h with|plain h _=>cases h;rfl
theorem Bt{X:Cx}{b:Bool}{x:Value}(h:bf X (.bool b) x):x=.bool b:=by
 cases h with|plain h _=>cases h;rfl
theorem uH{X:Cx}{n:Nat}{x:Value}(h:bf X (.ea n) x):mr x:=by
 cases h with
 |plain h _=>cases h
 |ea h=>exact h
theorem HB{X:Cx}{n:Nat}{x:Value}(h:bf X (.gd n) x):∃a cap,x=.slice (some a) 0 cap:=by
 cases h with
 |plain h _=>cases h
 |gd n a cap=>exact⟨a,cap,rfl⟩
theorem pB{X:Cx}{x:Value}(h:bf X .bU x):x=.slice none 0 0:=by
 cases h with|plain h _=>cases h;rfl
theorem ain{X:Cx}{l:List UInt8}{x:Value}(h:bf X (.str l) x):∃s:ByteArray,x=.string s∧s.data.toList=l:=by
 cases h with|plain h _=>cases h;exact⟨_,rfl,rfl⟩
theorem Bu{X:Cx}{id off:Nat}{x:Value}(h:bf X (.bj id off) x):x=.pointer (some ⟨X.g.κ id,off,none⟩):=by
 cases h with
 |plain h _=>cases h
 |bj=>rfl
theorem Bw{X:Cx}{i off:Nat}{x:Value}(h:bf X (.bH i off) x):x=.pointer (some ⟨X.g.γ i,off,none⟩)∧i<X.N:=by
 cases h with
 |plain h _=>cases h
 |bH _ _ h=>exact⟨rfl,h⟩
theorem EW{X:Cx}{i s n:Nat}{x:Value}(h:bf X (.c6 i s n) x):i<X.N∧((∃cap,n≤cap∧x=.slice (some ⟨X.g.γ i,0,none⟩) n cap)∨n=0∧mr x):=by
 cases h with
 |plain h _=>cases h
 |c6 _ _ _ cap h hl=>exact⟨h,.inl ⟨cap,hl,rfl⟩⟩
 |uD _ _ h hz=>exact⟨h,.inr ⟨rfl,hz⟩⟩
theorem aio{X:Cx}{i s off n:Nat}{x:Value}(h:bf X (.iM i s off n) x):i<X.N∧∃cap,n≤cap∧x=.slice (some ⟨X.g.γ i,off*s,none⟩) n cap:=by
 cases h with
 |plain h _=>cases h
 |iM _ _ _ _ cap h hl=>exact⟨h,cap,hl,rfl⟩
theorem aip{X:Cx}{id s off n:Nat}{x:Value}(h:bf X (.fT id s off n) x):∃cap,n≤cap∧x=.slice (some ⟨X.g.κ id,off*s,none⟩) n cap:=by
 cases h with
 |plain h _=>cases h
 |fT _ _ _ _ cap h=>exact⟨cap,h,rfl⟩
theorem rT{X:Cx}{id s n:Nat}{x:Value}(h:bf X (.bR id s n) x):(∃cap,n≤cap∧cap*s=X.g.cp id∧x=.slice (some ⟨X.g.κ id,0,none⟩) n cap)∨n=0∧mr x∧X.g.cp id=0:=by
 cases h with
 |plain h _=>cases h
 |bR _ _ _ cap h hc=>exact .inl ⟨cap,h,hc,rfl⟩
 |rP _ _ h hc=>exact .inr ⟨rfl,h,hc⟩
theorem rU{X:Cx}{cs:List V}{x:Value}(h:bf X (.agg cs) x) :
  ∃xs:Array Value,x=.agg xs∧cs.length=xs.size∧∀(i:Nat) (v:V) (y:Value),cs[i]?=some v→xs[i]?=some y→bf X v y:=by
 cases h with
 |plain h _=>cases h
 |agg _ xs hl hx=>exact⟨xs,rfl,hl,hx⟩
theorem aiq{X:Cx}{cs:List V}{x:Value}(h:bf X (.tuple cs) x) :
  ∃xs:Array Value,x=.tuple xs∧cs.length=xs.size∧∀(i:Nat) (v:V) (y:Value),cs[i]?=some v→xs[i]?=some y→bf X v y:=by
 cases h with
 |plain h _=>cases h
 |tuple _ xs hl hx=>exact⟨xs,rfl,hl,hx⟩
theorem bf.int{X:Cx}(k:IntKind)(n:Int):bf X (.int k n) (.int k n):=.plain (.int k n) (fun _ _ _ e=>by cases e)
theorem bf.bool{X:Cx}(b:Bool):bf X (.bool b) (.bool b):=.plain (.bool b) (fun _ _ _ e=>by cases e)
structure PW(X:Cx)(cs:List V)(xs:List Value):Prop where
 len:cs.length=xs.length
 at_:∀(i:Nat) (v:V) (y:Value),cs[i]?=some v→xs[i]?=some y→bf X v y
theorem fF.C5{h:Array Obj}{m:Nat→Nat}{v:V}{x:Value}(hr:fF h m v x):x.oneCell'=true:=by
 cases hr<;>rfl
theorem PH{X:Cx}{v:V}{x:Value}(h:bf X v x)(hc:v.cQ=true):x.oneCell'=true:=by
 cases h with
 |plain h _=>exact h.C5
 |fE h=>exact h.C5
 |ea h=>rcases h with rfl | ⟨a,rfl⟩<;>rfl
 |rP _ _ h _=>rcases h with rfl | ⟨a,rfl⟩<;>rfl
 |uD _ _ _ h=>rcases h with rfl | ⟨a,rfl⟩<;>rfl
 |undef=>simp[V.cQ]at hc
 |agg=>simp[V.cQ]at hc
 |tuple=>simp[V.cQ]at hc
 |_=>rfl
theorem fF.cells{h:Array Obj}{m:Nat→Nat}{v:V}{x:Value}(hr:fF h m v x):x.cells = #[x]:=by
 cases hr<;>rfl
theorem EX{X:Cx}{v:V}{x:Value}(h:bf X v x)(hu:∀u∈v.cells,u.cQ=true):PW X v.cells x.cells.toList:=by
 cases h with
 |undef=>exact absurd (hu .undef (by simp[V.cells])) (by simp[V.cQ])
 |plain h ht =>
  have hx:=h.cells;have hv:v.cells=[v]:=by cases h<;>rfl
  rw[hv,hx];refine⟨rfl,fun i u y hu hy=>?_⟩;cases i with
  |zero=>simp at hu hy;subst hu;subst hy;exact .plain h ht
  |succ j=>simp at hu
 |ea h =>
  refine⟨by rcases h with rfl | ⟨a,rfl⟩<;>rfl,fun i u y hu hy=>?_⟩
  have hx:x.cells = #[x]:=by rcases h with rfl | ⟨a,rfl⟩<;>rfl
  rw[hx]at hy;cases i with
  |zero=>simp[V.cells]at hu hy;subst hu;subst hy;exact .ea h
  |succ j=>simp[V.cells]at hu
 |gd n a cap=>exact⟨rfl,fun i u y hu hy=>by cases i with|zero=>(simp[V.cells,Value.cells]at hu hy;subst hu;subst hy;exact .gd n a cap)|succ j=>simp[V.cells]at hu⟩
 |fE h =>
  rename_i n es;have hx:=h.cells;have hv:(V.fE n es).cells=[.fE n es]:=rfl;rw[hv,hx];refine⟨rfl,fun i u y hu hy=>?_⟩;cases i with
  |zero=>simp at hu hy;subst hu;subst hy;exact .fE h
  |succ j=>simp at hu
 |agg cs xs hl hx=>exact⟨by simpa [V.cells,Value.cells] using hl,fun i u y hu hy=>hx i u y hu (by simpa [Value.cells] using hy)⟩
 |tuple cs xs hl hx=>exact absurd (hu (.tuple cs) (by simp[V.cells])) (by simp[V.cQ])
 |bj id off=>exact⟨rfl,fun i u y hu hy=>by cases i with|zero=>(simp[V.cells,Value.cells]at hu hy;subst hu;subst hy;exact .bj id off)|succ j=>simp[V.cells]at hu⟩
 |bR id off n cap h hc=>exact⟨rfl,fun i u y hu hy=>by cases i with|zero=>(simp[V.cells,Value.cells]at hu hy;subst hu;subst hy;exact .bR id off n cap h hc)|succ j=>simp[V.cells]at hu⟩
 |bH i off h=>exact⟨rfl,fun i u y hu hy=>by cases i with|zero=>(simp[V.cells,Value.cells]at hu hy;subst hu;subst hy;exact .bH _ off h)|succ j=>simp[V.cells]at hu⟩
 |fT id s off n cap h=>exact⟨rfl,fun i u y hu hy=>by cases i with|zero=>(simp[V.cells,Value.cells]at hu hy;subst hu;subst hy;exact .fT id s off n cap h)|succ j=>simp[V.cells]at hu⟩
 |c6 i s n cap h hl=>exact⟨rfl,fun i u y hu hy=>by cases i with|zero=>(simp[V.cells,Value.cells]at hu hy;subst hu;subst hy;exact .c6 _ s n cap h hl)|succ j=>simp[V.cells]at hu⟩
 |iM i s off n cap h hl=>exact⟨rfl,fun i u y hu hy=>by cases i with|zero=>(simp[V.cells,Value.cells]at hu hy;subst hu;subst hy;exact .iM _ s off n cap h hl)|succ j=>simp[V.cells]at hu⟩
 |rP id s h hc =>
  refine⟨by rcases h with rfl | ⟨a,rfl⟩<;>rfl,fun i u y hu hy=>?_⟩
  have hx:x.cells = #[x]:=by rcases h with rfl | ⟨a,rfl⟩<;>rfl
  rw[hx]at hy;cases i with
  |zero=>simp[V.cells]at hu hy;subst hu;subst hy;exact .rP id s h hc
  |succ j=>simp[V.cells]at hu
 |uD k s h hz =>
  refine⟨by rcases hz with rfl | ⟨a,rfl⟩<;>rfl,fun i u y hu hy=>?_⟩
  have hx:x.cells = #[x]:=by rcases hz with rfl | ⟨a,rfl⟩<;>rfl
  rw[hx]at hy;cases i with
  |zero=>simp[V.cells]at hu hy;subst hu;subst hy;exact .uD k s h hz
  |succ j=>simp[V.cells]at hu
 |gK=>exact⟨rfl,fun i u y hu hy=>by cases i with|zero=>(simp[V.cells,Value.cells]at hu hy;subst hu;subst hy;exact .gK)|succ j=>simp[V.cells]at hu⟩
 |e8 row off b o ys hb hc hv hp hm=>exact⟨rfl,fun i u y hu hy=>by cases i with|zero=>(simp[V.cells,Value.cells]at hu hy;subst hu;subst hy;exact .e8 row off b o ys hb hc hv hp hm)|succ j=>simp[V.cells]at hu⟩
 |fn f cap xs hl hx=>exact⟨rfl,fun i u y hu hy=>by cases i with|zero=>(simp[V.cells,Value.cells]at hu hy;subst hu;subst hy;exact .fn f cap xs hl hx)|succ j=>simp[V.cells]at hu⟩
 |gL=>exact⟨rfl,fun i u y hu hy=>by cases i with|zero=>(simp[V.cells,Value.cells]at hu hy;subst hu;subst hy;exact .gL)|succ j=>simp[V.cells]at hu⟩
 |map i h=>exact⟨rfl,fun i u y hu hy=>by cases i with|zero=>(simp[V.cells,Value.cells]at hu hy;subst hu;subst hy;exact .map _ h)|succ j=>simp[V.cells]at hu⟩
 |gM=>exact⟨rfl,fun i u y hu hy=>by cases i with|zero=>(simp[V.cells,Value.cells]at hu hy;subst hu;subst hy;exact .gM)|succ j=>simp[V.cells]at hu⟩
theorem PI{X:Cx}{v:V}{x:Value}(h:bf X v x):bf X v.jm x:=by
 cases h with
 |fE h=>exact .plain h (fun _ _ _ e=>by cases e)
 |ea h=>exact .ea h
 |gd n a cap=>exact .gd n a cap
 |plain h t=>cases h<;>exact .plain (by first|exact .int _ _|exact .bool _|exact .str _|exact .bU|exact .nil _ _|exact .empty _ _ _ _|(rename_i a b c d e f g i;exact .slice _ _ _ _ _ _ _ (by assumption) (by assumption) (by assumption) (by assumption) (by assumption) (by assumption) (by assumption))) t
 |undef=>exact .undef
 |bj=>exact .bj _ _
 |bR _ _ _ _ h hc=>exact .bR _ _ _ _ h hc
 |bH _ _ h=>exact .bH _ _ h
 |rP _ _ h hc=>exact .rP _ _ h hc
 |fT _ _ _ _ _ h=>exact .fT _ _ _ _ _ h
 |c6 _ _ _ _ h hl=>exact .c6 _ _ _ _ h hl
 |uD _ _ h hz=>exact .uD _ _ h hz
 |iM _ _ _ _ _ h hl=>exact .iM _ _ _ _ _ h hl
 |gK=>exact .gK
 |e8 row off b o ys hb hc hv hp hm=>exact .e8 row off b o ys hb hc hv hp hm
 |fn f cap xs hl hx=>exact .fn f cap xs hl hx
 |gL=>exact .gL
 |map _ h=>exact .map _ h
 |gM=>exact .gM
 |agg cs xs hl hx=>exact .agg cs xs hl hx
 |tuple cs xs hl hx=>exact .tuple cs xs hl hx
theorem W3{X:Cx}{v:V}{x:Value}(h:bf X v x):bf X v.lO x:=by
 have key:(∃cs,v=.agg cs)∨v.lO=v.jm:=by
  cases v<;>first|(left;exact⟨_,rfl⟩)|(right;rfl)
 rcases key with⟨cs,rfl⟩ | e
 ·obtain⟨xs,e,hl,hx⟩:=rU h
  subst e;refine .agg _ _ (by simpa using hl) (fun i u y hu hy=>?_)
  rw[vp]at hu;cases hc:cs[i]? with
  |none=>simp[hc]at hu
  |some z =>
   simp[hc]at hu;subst hu;exact PI (hx i z y hc hy)
 ·rw[e];exact PI h
theorem air{X:Cx}{r:j8}{v:V}{x:Value}(h:bf X v x):bf X (tD r v) x:=by
 cases r
 ·exact h
 ·exact W3 h
 ·exact h
def ct(P:Program)(E:Entry)(o:Oper)(S:St)(S':St)(a:Act)(w:World):Prop :=
 ∀(K:Act→World→Prop) (Q:Exit→Act→World→Prop),(∀g' a' w',R E g' S' a' w'→K a' w')→o.wp P a w K Q
theorem ct.value{o:Oper}{S S':St}{x:Value}{g':Gh}{w':World}(ah:(execOp a.eval o).run P w=.ok (.value x) w')(hR:R E g' S' (a.put o.dst x) w') :
  ct P E o S S' a w:=fun K Q hK=>by
 unfold Oper.wp;rw[ah,Oper.upon_value];exact hK _ _ _ hR
theorem ct.skip{o:Oper}{S S':St}{g':Gh}{w':World}(ah:(execOp a.eval o).run P w=.ok .skip w')(hd:o.dst=none)(hR:R E g' S' a w') :
  ct P E o S S' a w:=fun K Q hK=>by
 unfold Oper.wp;rw[ah,Oper.upon_skip,hd];exact hK _ _ _ hR
theorem ct.put{o:Oper}{v:V}{x:Value}(hR:R E g S a w)(hd:∀d,o.dst=some d→d<E.nt)
  (ah:(execOp a.eval o).run P w=.ok (.value x) w) (hx:bf (S.cx g w) v x):ct P E o S (S.put o.dst v) a w :=
 .value ah (hR.put hd hx)
theorem W4{o:Oper}{y:Operand}{x:bA}{S':St}{C:bD}(ho:o.op=.move y∨o.op=.assign y)(hx:bZ y x=true)(hR:R E g S a w)
  (hd:∀d,o.dst=some d→d<E.nt) (ah:VO.run C o.dst S (.mv x)=some S'):ct P E o S S' a w:=by
 simp only[VO.run]at ah;split at ah
 ·rename_i v hv
  cases ah;refine ct.put hR hd (x:=a.eval y) ?_ (c9 hR hx hv);rcases ho with ho|ho<;>simp[execOp,ho]
 ·cases ah
theorem ais{o:Oper}{c p q:Operand}{c' p' q':bA}{S':St}{C:bD}(ho:o.op=.pick c p q)(hc:bZ c c'=true)(hp:bZ p p'=true)(hq:bZ q q'=true)
  (hR:R E g S a w) (hd:∀d,o.dst=some d→d<E.nt) (ah:VO.run C o.dst S (.pick c' p' q')=some S'):ct P E o S S' a w:=by
 simp only[VO.run]at ah;split at ah
 ·rename_i t ht
  split at ah
  ·rename_i v hv
   cases ah;have h1:=Bt (c9 hR hc ht);refine ct.put hR hd (x:=if t then a.eval p else a.eval q) ?_ ?_
   ·simp[execOp,ho,h1,asBool]
   ·cases t
    ·exact c9 hR hq hv
    ·exact c9 hR hp hv
  ·cases ah
 ·cases ah
theorem ait(op:BinOp)(t:TypeId)(x y:Operand)(k k':IntKind)(m n:Int):(eqGuard op t x y (.int k m) (.int k' n)).run P w=.ok () w:=by
 unfold eqGuard;split<;>simp
theorem aiu(op:BinOp)(t:TypeId)(x y:Operand)(m n:Bool):(eqGuard op t x y (.bool m) (.bool n)).run P w=.ok () w:=by
 unfold eqGuard;split<;>simp
theorem jC{t:TypeId}{d:TypeDesc}(h:P.underlying t=some d):(underlying t).run P w=.ok d w:=by
 unfold underlying;simp[h]
omit E g S a in
theorem aiv{op:BinOp}{t:TypeId}{k:IntKind}{m n:Int}{v:V}(h:Hy op k m n=some v) :
  ∃x,(binOp op t (.int k m) (.int k n)).run P w=.ok x w∧∀X:Cx,bf X v x:=by
 unfold Hy at h;split at h
 all_goals (try (cases h;done))
 all_goals (try (split at h;· cases h))
 all_goals (cases h)
 all_goals first
  |(refine⟨_,?_,fun X=>bf.int _ _⟩;simp[binOp,Op.intArith];done)
  |(refine⟨_,?_,fun X=>bf.int _ _⟩;simp[binOp,Op.intDiv, *];done)
  |(refine⟨_,?_,fun X=>bf.int _ _⟩;simp[binOp,Op.shift, *];done)
  |(refine⟨_,?_,fun X=>bf.bool _⟩;simp[binOp,Op.intCmp];done)
theorem aiw{o:Oper}{op:BinOp}{t t':TypeId}{p q:Operand}{x y:bA}{S':St}{C:bD}(ho:o.op=.binOp op t p q t')(hp:bZ p x=true)(hq:bZ q y=true)
  (hR:R E g S a w) (hd:∀d,o.dst=some d→d<E.nt) {k:IntKind} {m:Int} {k':IntKind} {n:Int} (h1:S.ev x=some (.int k m)) (h2:S.ev y=some (.int k' n))
  (ah:VO.run C o.dst S (.bin op x y)=some S'):ct P E o S S' a w:=by
 simp only[VO.run,h1,h2,V.bin]at ah;by_cases hk:k=k'
 ·subst hk
  simp only[decide_true,bM]at ah;split at ah
  ·rename_i v hv
   cases ah;have e1:=nh (c9 hR hp h1);have e2:=nh (c9 hR hq h2);obtain⟨z,hz,hx⟩:=aiv (P:=P) (w:=w) (t:=t) hv;refine ct.put hR hd (x:=z) ?_ (hx _);simp[execOp,ho,e1,e2,ait,hz]
  ·cases ah
 ·simp[hk]at ah
theorem aix{t:TypeId}(ht:P.underlying t=some .bool)(m n:Bool):(Op.equal t (.bool m) (.bool n)).run P w=.ok (m==n) w:=by
 unfold Op.equal;rw[show Op.maxDepth=9999+1 from rfl,Op.equalIn];simp[jC ht]
theorem aiy{o:Oper}{neg:Bool}{t t':TypeId}{p q:Operand}{x y:bA}{S':St}{C:bD}(ho:o.op=.binOp (if neg then .neq else .eql) t p q t')(ht:P.underlying t=some .bool)(hp:bZ p x=true)(hq:bZ q y=true)
  (hR:R E g S a w) (hd:∀d,o.dst=some d→d<E.nt) (ah:VO.run C o.dst S (.beq neg x y)=some S'):ct P E o S S' a w:=by
 simp only[VO.run]at ah;split at ah
 ·rename_i m n h1 h2
  cases ah;have e1:=Bt (c9 hR hp h1);have e2:=Bt (c9 hR hq h2);refine ct.put hR hd (x:=.bool (bif neg then m != n else m==n)) ?_ (bf.bool _);cases neg<;>simp[execOp,ho,e1,e2,aiu,binOp,aix ht];cases m<;>cases n<;>rfl
 ·cases ah
theorem aiz{o:Oper}{op:BinOp}{t t':TypeId}{p q:Operand}{x y:bA}{S':St}{C:bD}(ho:o.op=.binOp op t p q t')(hp:bZ p x=true)(hq:bZ q y=true)
  (hR:R E g S a w) (hd:∀d,o.dst=some d→d<E.nt) (ah:VO.run C o.dst S (.bin op x y)=some S'):ct P E o S S' a w:=by
 have C6:=ah;simp only[VO.run]at ah;split at ah
 ·rename_i u v h1 h2
  split at ah
  ·rename_i z hz
   unfold V.bin at hz;split at hz
   ·exact aiw ho hp hq hR hd h1 h2 C6
   ·cases hz
  ·cases ah
 ·cases ah
theorem aiA{o:Oper}{op:UnOp}{t:TypeId}{p:Operand}{x:bA}{S':St}{C:bD}(ho:o.op=.unOp op t p)(hp:bZ p x=true)
  (hR:R E g S a w) (hd:∀d,o.dst=some d→d<E.nt) (ah:VO.run C o.dst S (.un op x)=some S'):ct P E o S S' a w:=by
 simp only[VO.run]at ah;split at ah
 ·rename_i u hu
  have hr:=c9 hR hp hu;split at ah
  ·rename_i v hv
   cases ah;unfold V.un at hv;split at hv
   ·have e:=Bt hr
    split at hv<;>cases hv;refine ct.put hR hd (x:=_) ?_ (bf.bool _);simp[execOp,ho,e,Op.unary]
    try rfl
   ·have e:=nh hr
    split at hv<;>cases hv;refine ct.put hR hd (x:=_) ?_ (bf.int _ _);simp[execOp,ho,e,Op.unary,Op.intArith]
    try rfl
   ·cases hv
  ·cases ah
 ·cases ah
theorem aiB{o:Oper}{s t:TypeId}{k:IntKind}{d:TypeDesc}{p:Operand}{x:bA}{S':St}{C:bD}(ho:o.op=.convert s t p)(hs:P.underlying s=some d)(ht:P.underlying t=some (.int k))(hp:bZ p x=true)
  (hR:R E g S a w) (hd:∀d,o.dst=some d→d<E.nt) (ah:VO.run C o.dst S (.conv k x)=some S'):ct P E o S S' a w:=by
 simp only[VO.run]at ah;split at ah
 ·rename_i j n hn
  cases ah;have e:=nh (c9 hR hp hn);refine ct.put hR hd (x:=_) ?_ (bf.int _ _);simp[execOp,ho,e,convert,jC hs,jC ht,Conv.intToInt]
  try rfl
 ·cases ah
theorem aiC{o:Oper}{p:Operand}{x:bA}{S':St}{C:bD}(ho:o.op=.nilCheck p)(hp:bZ p x=true)
  (hR:R E g S a w) (hd:∀d,o.dst=some d→d<E.nt) (ah:VO.run C o.dst S (.uz x)=some S'):ct P E o S S' a w:=by
 simp only[VO.run]at ah;split at ah
 ·rename_i i f hv
  cases ah;have hr:=c9 hR hp hv;have e:=Bu hr;refine ct.put hR hd (x:=_) ?_ hr;simp[execOp,ho,e]
 ·rename_i i f hv
  cases ah;have hr:=c9 hR hp hv;obtain⟨e,_⟩:=Bw hr;refine ct.put hR hd (x:=_) ?_ hr;simp[execOp,ho,e]
 ·rename_i r f hv
  cases ah;have hr:=c9 hR hp hv;obtain⟨b,o',e⟩:∃b o',a.eval p=.pointer (some ⟨b,o',none⟩):=by
   generalize a.eval p=z at hr;cases hr with
   |plain h _=>cases h
   |e8 _ _ b o'=>exact⟨b,_,rfl⟩
  refine ct.put hR hd (x:=_) ?_ hr;simp[execOp,ho,e]
 ·cases ah
theorem W5{X:Cx}{v:V}{x:Value}(h:bf X v x)(n:Nat) :
  (∀i o,v=.bj i o→∃b f,x=.pointer (some ⟨b,f,none⟩)∧bf X (.bj i (o+n)) (.pointer (some ⟨b,f+n,none⟩))) ∧
  (∀i o,v=.bH i o→∃b f,x=.pointer (some ⟨b,f,none⟩)∧bf X (.bH i (o+n)) (.pointer (some ⟨b,f+n,none⟩))) ∧
  (∀r o,v=.e8 r o→∃b f,x=.pointer (some ⟨b,f,none⟩)∧bf X (.e8 r (o+n)) (.pointer (some ⟨b,f+n,none⟩))):=by
 refine⟨fun i o e=>?_,fun i o e=>?_,fun r o e=>?_⟩
 ·subst e;rw[Bu h];exact⟨_,_,rfl,.bj _ _⟩
 ·subst e;obtain⟨e,hi⟩:=Bw h;rw[e];exact⟨_,_,rfl,.bH _ _ hi⟩
 ·subst e
  cases h with
  |plain h _=>cases h
  |e8 _ _ b o' ys hb hc hv hp hm=>exact⟨_,_,rfl,by rw[CT];exact .e8 r (o+n) b o' ys hb hc hv hp hm⟩
theorem lg(b f n:Nat):(⟨b,f,none⟩:Addr).add n=⟨b,f+n,none⟩:=by
 unfold Addr.add;split
 ·simp[*]
 ·rfl
theorem pC{t:TypeId}{n:Nat}(h:(P.info? t).map (·.size)=some n):(sizeOf t).run P w=.ok n w:=by
 cases hi:P.info? t with
 |none=>simp[hi]at h
 |some i=>simp[hi]at h;simp[sizeOf,typeInfo,hi,h]
theorem aiD{o:Oper}{s:TypeId}{fi off:Nat}{fs:Array Field}{f:Field}{n:Nat}{p:Operand}{x:bA}{S':St}{C:bD}(ho:o.op=.fieldAddr s p fi)(hs:P.underlying s=some (.struct fs))
  (hf:fs[fi]?=some f) (hn:(P.info? f.type).map (·.size)=some n) (h0:n≠0) (jS:f.offset=off) (hp:bZ p x=true)
  (hR:R E g S a w) (hd:∀d,o.dst=some d→d<E.nt) (ah:VO.run C o.dst S (.tA off x)=some S'):ct P E o S S' a w:=by
 simp only[VO.run]at ah;split at ah
 all_goals first|(cases ah;done)|skip
 all_goals
  rename_i hv;cases ah;obtain⟨m1,m2,m3⟩:=W5 (c9 hR hp hv) off
 ·obtain⟨b,q,e,hr⟩:=m1 _ _ rfl
  refine ct.put hR hd (x:=_) ?_ hr;simp[execOp,ho,e,Instr.fieldAt,jC hs,hf,Instr.sureAddr,fieldPlace,pC hn,h0,jS,lg]
 ·obtain⟨b,q,e,hr⟩:=m2 _ _ rfl
  refine ct.put hR hd (x:=_) ?_ hr;simp[execOp,ho,e,Instr.fieldAt,jC hs,hf,Instr.sureAddr,fieldPlace,pC hn,h0,jS,lg]
 ·obtain⟨b,q,e,hr⟩:=m3 _ _ rfl
  refine ct.put hR hd (x:=_) ?_ hr;simp[execOp,ho,e,Instr.fieldAt,jC hs,hf,Instr.sureAddr,fieldPlace,pC hn,h0,jS,lg]
theorem aiE{o:Oper}{t:TypeId}{len:Nat}{el:TypeId}{sz:Nat}{p q:Operand}{x i:bA}{S':St}{C:bD}(ho:o.op=.indexAddr t p q)(ht:P.underlying t=some (.array len el))
  (hn:(P.info? el).map (·.size)=some sz) (hR:R E g S a w) (hp:∀v,S.ev x=some v→bf (S.cx g w) v (a.eval p)) (hq:bZ q i=true)
  (hd:∀d,o.dst=some d→d<E.nt) (ah:VO.run C o.dst S (.oJ (some len) sz x i)=some S'):ct P E o S S' a w:=by
 simp only[VO.run]at ah;split at ah
 ·rename_i u k m hu hm
  have e2:=nh (c9 hR hq hm);cases hc:(decide (0≤m)&&decide (m<(len:Int))) with
  |false=>simp[hc]at ah
  |true =>
   simp only[hc,bM]at ah;simp only[b8,kA]at hc;have hr:=hp _ hu;obtain⟨m1,m2,m3⟩:=W5 hr (m.toNat*sz);split at ah<;>first|(cases ah;done)|skip
   all_goals cases ah
   ·obtain⟨b,f,e,hx⟩:=m1 _ _ rfl
    refine ct.put hR hd (x:=_) ?_ hx;simp[execOp,ho,e,e2,Instr.indexAt,asIntOf,jC ht,Instr.sureAddr,pC hn,hc,lg]
   ·obtain⟨b,f,e,hx⟩:=m2 _ _ rfl
    refine ct.put hR hd (x:=_) ?_ hx;simp[execOp,ho,e,e2,Instr.indexAt,asIntOf,jC ht,Instr.sureAddr,pC hn,hc,lg]
   ·obtain⟨b,f,e,hx⟩:=m3 _ _ rfl
    refine ct.put hR hd (x:=_) ?_ hx;simp[execOp,ho,e,e2,Instr.indexAt,asIntOf,jC ht,Instr.sureAddr,pC hn,hc,lg]
 ·cases ah
theorem fa{α:Type}{l:List α}{i:Nat}{x:α}(h:l[i]?=some x):i<l.length:=by
 rcases cM i l.length with h' | h'
 ·exact h'
 ·simp[mo h']at h
theorem aiF{o:Oper}{t:TypeId}{el:TypeId}{sz:Nat}{p q:Operand}{x i:bA}{S':St}{C:bD}(ho:o.op=.indexAddr t p q)(ht:P.underlying t=some (.slice el))
  (hn:(P.info? el).map (·.size)=some sz) (hp:bZ p x=true) (hq:bZ q i=true)
  (hR:R E g S a w) (hd:∀d,o.dst=some d→d<E.nt) (ah:VO.run C o.dst S (.oJ none sz x i)=some S'):ct P E o S S' a w:=by
 simp only[VO.run]at ah;split at ah
 ·rename_i tk m es k z hu hm
  have e2:=nh (c9 hR hq hm);cases hc:(decide (0≤z)&&(m==sz)) with
  |false=>simp[hc]at ah
  |true =>
   simp only[hc,bM]at ah;simp only[b8,kA,eg]at hc;obtain⟨hz,rfl⟩:=hc;split at ah
   ·rename_i row jc
    cases ah;have bI:=fa jc;have hr:=c9 hR hp hu;obtain⟨b,off,cap,ys,e,hb,eK,h1,h2,h3,h3p,h4⟩:∃(b off cap:Nat) (ys:Nat→Nat→Value),a.eval p=.slice (some ⟨b,off,none⟩) es.length cap∧b<w.heap.size∧es.length≤cap ∧
      (∀(i:Nat) (row:List V),es[i]?=some row→row.length=m) ∧
      (∀(i:Nat) (row:List V) (j:Nat) (v:V),es[i]?=some row→row[j]?=some v→cellAt w.heap b (off+i*m+j)=some (ys i j)) ∧
      (∀(i:Nat) (row:List V) (j:Nat) (v:V),es[i]?=some row→row[j]?=some v→fF w.heap g.m v (ys i j)) ∧
      (∀(i:Nat) (row:List V) (j:Nat) (v:V),es[i]?=some row→row[j]?=some v→v.plain=true)∧off+es.length*m≤g.m b:=by
     generalize a.eval p=y at hr;cases hr with
     |plain h _ =>
      cases h with
      |nil=>simp at bI
      |empty=>simp at bI
      |slice _ _ _ b off cap ys hb eK jc hc hv hp hm=>exact⟨b,off,cap,ys,rfl,hb,eK,jc,hc,hv,hp,hm⟩
    refine ct.put hR hd (x:=.pointer (some ⟨b,off+z.toNat*m,none⟩)) ?_ ?_
    ·have C7:z<(es.length:Int):=by omega
     simp[execOp,ho,e,e2,Instr.indexAt,asIntOf,jC ht,pC hn,hz,C7,lg]
    ·refine .e8 row 0 b (off+z.toNat*m) (ys z.toNat) hb (fun j v hj=>h2 _ row j v jc hj) (fun j v hj=>h3 _ row j v jc hj) (fun j v hj=>h3p _ row j v jc hj) ?_
     have:=h1 _ row jc;have h5:z.toNat*m+m≤es.length*m:=by
      have:=rM m bI;rw[oI]at this;exact this
     show off+z.toNat*m+row.length≤g.m b;omega
   ·cases ah
 ·rename_i id off len k z hu hm
  have e2:=nh (c9 hR hq hm);cases hc:(decide (0≤z)&&decide (z<(len:Int))&&(off==sz)) with
  |false=>simp[hc]at ah
  |true =>
   simp only[hc,bM]at ah;simp only[b8,kA]at hc;cases ah;have hr:=c9 hR hp hu;rcases rT hr with⟨cap,eK,_,hy⟩ | ⟨h0,_⟩
   ·refine ct.put hR hd (x:=.pointer (some ⟨g.κ id,z.toNat*sz,none⟩)) ?_ (.bj _ _)
    simp[execOp,ho,hy,e2,Instr.indexAt,asIntOf,jC ht,pC hn,hc.1,lg];rfl
   ·omega
 ·rename_i id off len k z hu hm
  have e2:=nh (c9 hR hq hm);cases hc:(decide (0≤z)&&decide (z<(len:Int))&&(off==sz)) with
  |false=>simp[hc]at ah
  |true =>
   simp only[hc,bM]at ah;simp only[b8,kA]at hc;cases ah;have hr:=c9 hR hp hu;obtain⟨hi,⟨cap,eK,hy⟩ | ⟨h0,_⟩⟩:=EW hr
   ·refine ct.put hR hd (x:=.pointer (some ⟨g.γ id,z.toNat*sz,none⟩)) ?_ (.bH _ _ hi)
    simp[execOp,ho,hy,e2,Instr.indexAt,asIntOf,jC ht,pC hn,hc.1,lg];rfl
   ·omega
 ·cases ah
theorem aiG{o:Oper}{t e:TypeId}{ts:Array TypeId}{p:Operand}{x:bA}{S':St}{C:bD}(ho:o.op=.call ⟨.builtin .len,#[p],ts⟩)(vJ:ts[0]?=some t)
  (ht:P.underlying t=some (.slice e)) (hp:bZ p x=true)
  (hR:R E g S a w) (hd:∀d,o.dst=some d→d<E.nt) (ah:VO.run C o.dst S (.len x)=some S'):ct P E o S S' a w:=by
 have go:∀(v:V) (n:Nat),S.ev x=some v→(∃q cap,a.eval p=.slice q n cap)→ct P E o S (S.put o.dst (.int .i64 n)) a w:=by
  intro v n hv ⟨q,cap,e⟩;refine ct.put hR hd (x:=.int .i64 n) ?_ (bf.int _ _);simp[execOp,ho,resolve,invoke,builtin,Builtin.len_,vJ,e,jC ht,goInt]
 simp only[VO.run]at ah;split at ah
 ·rename_i hv
  cases ah;exact go _ 0 hv ⟨none,0,pB (c9 hR hp hv)⟩
 ·rename_i n hv
  cases ah;refine go _ 0 hv ?_;rcases uH (c9 hR hp hv) with e | ⟨a,e⟩
  ·exact⟨_,_,e⟩
  ·exact⟨_,_,e⟩
 ·rename_i n hv
  cases ah;refine go _ 0 hv ?_;obtain⟨a,cap,e⟩:=HB (c9 hR hp hv);exact⟨_,_,e⟩
 ·rename_i tk n es hv
  cases ah;have hr:=c9 hR hp hv;refine go _ _ hv ?_;generalize a.eval p=y at hr;cases hr with
  |plain h _=>cases h with
   |nil=>exact⟨none,0,rfl⟩
   |empty _ _ a cap=>exact⟨some a,cap,rfl⟩
   |slice=>exact⟨_,_,rfl⟩
 ·rename_i i f n hv
  cases ah;have hr:=c9 hR hp hv;refine go _ _ hv ?_;rcases rT hr with⟨cap,_,_,hy⟩ | ⟨h0,hy | ⟨a,hy⟩,_⟩
  ·exact⟨_,_,hy⟩
  ·subst h0;exact⟨_,_,hy⟩
  ·subst h0;exact⟨_,_,hy⟩
 ·rename_i i f n hv
  cases ah;have hr:=c9 hR hp hv;refine go _ _ hv ?_;obtain⟨_,⟨cap,_,hy⟩ | ⟨h0,hy | ⟨a,hy⟩⟩⟩:=EW hr
  ·exact⟨_,_,hy⟩
  ·subst h0;exact⟨_,_,hy⟩
  ·subst h0;exact⟨_,_,hy⟩
 ·cases ah
theorem aiH{o:Oper}{t e:TypeId}{ts:Array TypeId}{p:Operand}{x:bA}{S':St}{C:bD}(ho:o.op=.call ⟨.builtin .cap,#[p],ts⟩)(vJ:ts[0]?=some t)
  (ht:P.underlying t=some (.slice e)) (hp:bZ p x=true)
  (hR:R E g S a w) (hd:∀d,o.dst=some d→d<E.nt) (ah:VO.run C o.dst S (.wN x)=some S'):ct P E o S S' a w:=by
 simp only[VO.run]at ah;split at ah
 ·rename_i hv
  cases ah;have e:=pB (c9 hR hp hv);refine ct.put hR hd (x:=.int .i64 0) ?_ (bf.int _ _);simp[execOp,ho,resolve,invoke,builtin,Builtin.cap_,vJ,e,jC ht,goInt]
 ·cases ah
theorem aiI{o:Oper}{t:TypeId}{ts:Array TypeId}{p:Operand}{x:bA}{S':St}{C:bD}(ho:o.op=.call ⟨.builtin .len,#[p],ts⟩)(vJ:ts[0]?=some t)
  (ht:P.underlying t=some .string) (hp:bZ p x=true)
  (hR:R E g S a w) (hd:∀d,o.dst=some d→d<E.nt) (ah:VO.run C o.dst S (.vz x)=some S'):ct P E o S S' a w:=by
 simp only[VO.run]at ah;split at ah
 ·rename_i l hv
  cases ah;obtain⟨s,e,hs⟩:=ain (c9 hR hp hv);refine ct.put hR hd (x:=.int .i64 l.length) ?_ (bf.int _ _);have:s.size=l.length:=by rw[←hs];simp
  simp[execOp,ho,resolve,invoke,builtin,Builtin.len_,vJ,e,jC ht,goInt,this]
 ·cases ah
theorem aiJ{o:Oper}{k:Nat}{p:Operand}{x:bA}{S':St}{C:bD}(ho:o.op=.extract p k)(hp:bZ p x=true)
  (hR:R E g S a w) (hd:∀d,o.dst=some d→d<E.nt) (ah:VO.run C o.dst S (.ext x k)=some S'):ct P E o S S' a w:=by
 simp only[VO.run]at ah;split at ah
 ·rename_i vs hv
  split at ah
  ·rename_i v hk
   cases ah;obtain⟨xs,e,hl,hx⟩:=aiq (c9 hR hp hv);have bI:k<xs.size:=by rw[←hl];exact fa hk
   refine ct.put hR hd (x:=xs[k]) ?_ (hx k v xs[k] hk (by simp[bI]))
   simp[execOp,ho,e,Instr.extract,bI]
  ·cases ah
 ·cases ah
theorem aiK{o:Oper}{mx:Bool}{ts:Array TypeId}{p q:Operand}{x y:bA}{S':St}{C:bD}(ho:o.op=.call ⟨.builtin (if mx then .max else .min),#[p,q],ts⟩)(hp:bZ p x=true)(hq:bZ q y=true)
  (hR:R E g S a w) (hd:∀d,o.dst=some d→d<E.nt) (ah:VO.run C o.dst S (.mm mx x y)=some S'):ct P E o S S' a w:=by
 simp only[VO.run]at ah;split at ah
 ·rename_i k m k' n hm hn
  cases ah;have e1:=nh (c9 hR hp hm);have e2:=nh (c9 hR hq hn);refine ct.put hR hd (x:=_) ?_ (bf.int _ _);cases mx
  ·simp[execOp,ho,e1,e2,resolve,invoke,builtin,Builtin.min_,Builtin.min2]
   rw[Int.min_def];split<;>split<;>omega
  ·simp[execOp,ho,e1,e2,resolve,invoke,builtin,Builtin.max_,Builtin.max2]
   rw[Int.max_def];split<;>split<;>omega
 ·cases ah
theorem aiL{o:Oper}{mx:Bool}{ts:Array TypeId}{p q r:Operand}{x y z:bA}{S':St}{C:bD}(ho:o.op=.call ⟨.builtin (if mx then .max else .min),#[p,q,r],ts⟩)(hp:bZ p x=true)(hq:bZ q y=true)(hz:bZ r z=true)
  (hR:R E g S a w) (hd:∀d,o.dst=some d→d<E.nt) (ah:VO.run C o.dst S (.vB mx x y z)=some S'):ct P E o S S' a w:=by
 simp only[VO.run]at ah;split at ah
 ·rename_i k m k' n k'' l hm hn hl
  cases ah;have e1:=nh (c9 hR hp hm);have e2:=nh (c9 hR hq hn);have e3:=nh (c9 hR hz hl);refine ct.put hR hd (x:=_) ?_ (bf.int _ _);cases mx
  ·simp[execOp,ho,e1,e2,e3,resolve,invoke,builtin,Builtin.min_,Builtin.min2]
   simp only[Int.min_def];repeat' split
   all_goals omega
  ·simp[execOp,ho,e1,e2,e3,resolve,invoke,builtin,Builtin.max_,Builtin.max2]
   simp only[Int.max_def];repeat' split
   all_goals omega
 ·cases ah
theorem aiM{o:Oper}{f:FuncId}{zP:Array Operand}{cap:List bA}{S':St}{C:bD}(ho:o.op=.makeFunc (.func (jA f)) #[] zP)(hc:cap.length=zP.size∧∀(i:Nat) x y,cap[i]?=some x→zP[i]?=some y→bZ y x=true)
  (hR:R E g S a w) (hd:∀d,o.dst=some d→d<E.nt) (ah:VO.run C o.dst S (.wR f cap)=some S'):ct P E o S S' a w:=by
 have aiN:∀{xs:List bA} {vs:List V},qf S xs=some vs→vs.length=xs.length∧∀(i:Nat) (v:V),vs[i]?=some v→∃x,xs[i]?=some x∧S.ev x=some v:=by
  intro xs;induction xs with
  |nil=>intro vs h;simp[qf]at h;subst h;simp
  |cons x xs ih =>
   intro vs h;simp only[qf]at h;split at h
   ·rename_i v EY h1 h2
    cases h;obtain⟨p,q⟩:=ih h2;refine⟨by simp[p],fun i u hu=>?_⟩
    cases i with
    |zero=>simp at hu;subst hu;exact⟨x,by simp,h1⟩
    |succ i=>obtain⟨z,hz,he⟩:=q i u (by simpa using hu);exact⟨z,by simpa using hz,he⟩
   ·cases h
 have aiO:∀{vs us:List V},C0 vs=some us→us=vs∧∀v∈vs,∃i o,v=.bH i o:=by
  intro vs;induction vs with
  |nil=>intro us h;simp[C0]at h;subst h;simp
  |cons v vs ih =>
   intro us h;unfold C0 at h;split at h
   ·rename_i heq;cases heq
   ·rename_i i o EY heq
    cases heq;split at h
    ·rename_i l8 hu
     cases h;obtain⟨p,q⟩:=ih hu;subst p;exact⟨rfl,fun z hz=>by
      rcases jQ.1 hz with e|e
      ·exact⟨_,_,e⟩
      ·exact q z e⟩
    ·cases h
   ·cases h
 simp only[VO.run]at ah;split at ah
 ·rename_i vs tG
  split at ah
  ·rename_i us pD
   cases ah;obtain⟨l1,g1⟩:=aiN tG;obtain⟨rfl,g2⟩:=aiO pD;refine ct.put hR hd (x:=.func (.func (jA f)) #[] (zP.map a.eval)) ?_ (.fn f us _ (by simp;omega) (fun j v hj=>?_))
   ·simp[execOp,ho,Instr.makeFunc]
   ·obtain⟨i,o',e⟩:=g2 v (g9 hj)
    obtain⟨x,hx,zQ⟩:=g1 j v hj;have bI:j<zP.size:=by have:=fa hx;omega
    have hr:=c9 hR (hc.2 j x zP[j] hx (by simp[bI])) zQ
    subst e;obtain⟨e2,hi⟩:=Bw hr;exact⟨i,o',rfl,hi,by simp[bI,e2]⟩
  ·cases ah
 ·cases ah
end
end Go.Vm
