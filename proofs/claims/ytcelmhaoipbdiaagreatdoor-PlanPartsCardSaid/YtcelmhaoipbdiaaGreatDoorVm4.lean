/- The value machine, 4: the operations that only compute. -/
import Derived.Test.YtcelmhaoipbdiaaGreatDoorVm3
namespace Go.Vm
set_option linter.all false
def IT:Value→V→Bool
 |.int k n,.int k' n'=>decide (k=k')&&n==n'
 |.bool b,.bool c=>b==c
 |.string s,.str l=>s.data.toList==l
 |.slice none 0 0,.b9=>true
 |.pointer none,.fQ=>true
 |.nilFunc,.fR=>true
 |.map none,.fS=>true
 |_,_=>false
def uc:List Value→List V→Bool
 |[],[]=>true
 |x::xs,v::vs=>IT x v&&uc xs vs
 |_,_=>false
def IU:Value→V→Bool
 |.agg xs,.agg cs=>uc xs.toList cs
 |x,v=>IT x v
theorem S4{X:Cx}{x:Value}{v:V}(h:IT x v=true):aZ X v x∧v.cI=true∧∀d,v.ch d=false:=by
 unfold IT at h;split at h
 ·simp at h;obtain⟨rfl,rfl⟩:=h
  exact⟨.plain (.int _ _) (fun _ _ _ e=>by cases e),rfl,fun _=>rfl⟩
 ·simp at h;subst h
  exact⟨.plain (.bool _) (fun _ _ _ e=>by cases e),rfl,fun _=>rfl⟩
 ·simp at h;subst h
  exact⟨.plain (.str _) (fun _ _ _ e=>by cases e),rfl,fun _=>rfl⟩
 ·exact⟨.plain .b9 (fun _ _ _ e=>by cases e),rfl,fun _=>rfl⟩
 ·exact⟨.fQ,rfl,fun _=>rfl⟩
 ·exact⟨.fR,rfl,fun _=>rfl⟩
 ·exact⟨.fS,rfl,fun _=>rfl⟩
 ·cases h
theorem CP{X:Cx}:∀{xs:List Value} {vs:List V},uc xs vs=true→vs.length=xs.length ∧
  (∀(i:Nat) (v:V) (x:Value),vs[i]?=some v→xs[i]?=some x→v.cI=true∧(∀d,v.ch d=false)∧aZ X v x)
 |[],[],_=>⟨rfl,by simp⟩
 |[],_::_,h=>by simp[uc]at h
 |_::_,[],h=>by simp[uc]at h
 |x::xs,v::vs,h=>by
  simp only[uc,bQ]at h;obtain⟨h1,h2⟩:=h;obtain⟨hl,hr⟩:=CP (X:=X) h2;refine⟨by simp[hl],fun i u y hu hy=>?_⟩
  cases i with
  |zero =>
   simp at hu hy;subst hu;subst hy;obtain⟨a,b,c⟩:=S4 (X:=X) h1;exact⟨b,c,a⟩
  |succ j=>exact hr j u y (by simpa using hu) (by simpa using hy)
theorem S5{X:Cx}{x:Value}{v:V}(h:IU x v=true):aZ X v x:=by
 unfold IU at h;split at h
 ·obtain⟨hl,hr⟩:=CP (X:=X) h
  exact .agg _ _ (by simpa using hl) (fun i v x hv hx=>(hr i v x hv (by simpa using hx)).2.2)
 ·exact(S4 h).1
def bO:Operand→bp→Bool
 |.tmp t,.t s=>t==s
 |.const v,.c u=>IU v u
 |.func f,.c (.fn g [])=>f==jb g
 |_,_=>false
section
variable {P:Program} {E:Entry} {g:Gh} {S:St} {a:Act} {w:World}
theorem cS(hR:R E g S a w){y:Operand}{x:bp}(ho:bO y x=true){v:V}(hv:S.ev x=some v):aZ (S.cx g w) v (a.eval y):=by
 unfold bO at ho;split at ho
 ·simp at ho;subst ho
  obtain⟨z,hz,hr⟩:=hR.env _ v hv;simp only[Act.eval];simpa [hz] using hr
 ·simp only[St.ev,Option.some.injEq]at hv;subst hv
  exact S5 ho
 ·simp at ho;subst ho
  simp only[St.ev,Option.some.injEq]at hv;subst hv;exact .fn _ [] #[] rfl (by simp)
 ·cases ho
def V.S6:V→V→Bool
 |.int k n,.int l m=>decide (k=l)&&decide (n=m)
 |.bool a,.bool b=>a==b
 |.str a,.str b=>a==b
 |.fn f [],.fn g []=>f==g
 |_,_=>false
def IV:List V→List V→Bool
 |[],[]=>true
 |v::l,u::m=>v.S6 u&&IV l m
 |_,_=>false
theorem S7:∀{l m:List V},IV l m=true→l=m
 |[],[],_=>rfl
 |v::l,u::m,h=>by
  simp only[IV,bQ]at h;rw[S7 h.2];have h1:=h.1;unfold V.S6 at h1;split at h1<;>simp_all
 |[],_::_,h=>by cases h
 |_::_,[],h=>by cases h
def MB(T:Pk):Operand→bp→Bool
 |.global k,.c (.eI row 0)=>T.any fun p=>p.1==k&&IV p.2 row
 |_,_=>false
theorem ada{T:Pk}(hT:∀p∈T,p∈E.T)(hR:R E g S a w){y:Operand}{x:bp}(ho:MB T y x=true){v:V}(hv:S.ev x=some v):aZ (S.cx g w) v (a.eval y):=by
 unfold MB at ho;split at ho
 ·rename_i k row
  simp only[EM,bQ,dO]at ho;obtain⟨⟨k',row'⟩,h1,rfl,h2⟩:=ho;obtain rfl:=S7 h2;simp only[St.ev,Option.some.injEq]at hv;subst hv;obtain⟨h3,h4,h5⟩:=hR.pk k' row' (hT _ h1);simp only[Act.eval];have h6:∀j,∃y,∀v,row'[j]?=some v→v.plain=true∧cellAt w.heap k' j=some y∧fa w.heap g.m v y:=fun j=>by
   cases hj:row'[j]? with
   |none=>exact⟨Go.undef,fun v h=>by cases h⟩
   |some v =>
    obtain⟨a1,y,a2,a3⟩:=h5 j v hj;exact⟨y,fun u h=>by cases h;exact⟨a1,a2,a3⟩⟩
  have:=aZ.eI (X:=S.cx g w) row' 0 k' 0 (fun j=>(h6 j).choose) h3 (fun j v hj=>by rw[jz];exact((h6 j).choose_spec v hj).2.1) (fun j v hj=>((h6 j).choose_spec v hj).2.2) (fun j v hj=>((h6 j).choose_spec v hj).1) (by rw[jz];exact h4)
  simpa using this
 ·cases ho
theorem lX{X:Cx}{k:IntKind}{n:Int}{x:Value}(h:aZ X (.int k n) x):x=.int k n:=by
 cases h with|plain h _=>cases h;rfl
theorem zL{X:Cx}{b:Bool}{x:Value}(h:aZ X (.bool b) x):x=.bool b:=by
 cases h with|plain h _=>cases h;rfl
theorem ta{X:Cx}{n:Nat}{x:Value}(h:aZ X (.dX n) x):kX x:=by
 cases h with
 |plain h _=>cases h
 |dX h=>exact h
theorem Fe{X:Cx}{n:Nat}{x:Value}(h:aZ X (.fx n) x):∃a cap,x=.slice (some a) 0 cap:=by
 cases h with
 |plain h _=>cases h
 |fx n a cap=>exact⟨a,cap,rfl⟩
theorem nY{X:Cx}{x:Value}(h:aZ X .b9 x):x=.slice none 0 0:=by
 cases h with|plain h _=>cases h;rfl
theorem adb{X:Cx}{l:List UInt8}{x:Value}(h:aZ X (.str l) x):∃s:ByteArray,x=.string s∧s.data.toList=l:=by
 cases h with|plain h _=>cases h;exact⟨_,rfl,rfl⟩
theorem zM{X:Cx}{id off:Nat}{x:Value}(h:aZ X (.bG id off) x):x=.pointer (some ⟨X.g.κ id,off,none⟩):=by
 cases h with
 |plain h _=>cases h
 |bG=>rfl
theorem zN{X:Cx}{i off:Nat}{x:Value}(h:aZ X (.bI i off) x):x=.pointer (some ⟨X.g.γ i,off,none⟩)∧i<X.N:=by
 cases h with
 |plain h _=>cases h
 |bI _ _ h=>exact⟨rfl,h⟩
theorem CQ{X:Cx}{i s n:Nat}{x:Value}(h:aZ X (.da i s n) x):i<X.N∧((∃cap,n≤cap∧x=.slice (some ⟨X.g.γ i,0,none⟩) n cap)∨n=0∧kX x):=by
 cases h with
 |plain h _=>cases h
 |da _ _ _ cap h hl=>exact⟨h,.inl ⟨cap,hl,rfl⟩⟩
 |s8 _ _ h hz=>exact⟨h,.inr ⟨rfl,hz⟩⟩
theorem ade{X:Cx}{i s off n:Nat}{x:Value}(h:aZ X (.gX i s off n) x):i<X.N∧∃cap,n≤cap∧x=.slice (some ⟨X.g.γ i,off*s,none⟩) n cap:=by
 cases h with
 |plain h _=>cases h
 |gX _ _ _ _ cap h hl=>exact⟨h,cap,hl,rfl⟩
theorem adf{X:Cx}{id s off n:Nat}{x:Value}(h:aZ X (.fm id s off n) x):∃cap,n≤cap∧x=.slice (some ⟨X.g.κ id,off*s,none⟩) n cap:=by
 cases h with
 |plain h _=>cases h
 |fm _ _ _ _ cap h=>exact⟨cap,h,rfl⟩
theorem qa{X:Cx}{id s n:Nat}{x:Value}(h:aZ X (.bP id s n) x):(∃cap,n≤cap∧cap*s=X.g.cp id∧x=.slice (some ⟨X.g.κ id,0,none⟩) n cap)∨n=0∧kX x∧X.g.cp id=0:=by
 cases h with
 |plain h _=>cases h
 |bP _ _ _ cap h hc=>exact .inl ⟨cap,h,hc,rfl⟩
 |p8 _ _ h hc=>exact .inr ⟨rfl,h,hc⟩
theorem qb{X:Cx}{cs:List V}{x:Value}(h:aZ X (.agg cs) x) :
  ∃xs:Array Value,x=.agg xs∧cs.length=xs.size∧∀(i:Nat) (v:V) (y:Value),cs[i]?=some v→xs[i]?=some y→aZ X v y:=by
 cases h with
 |plain h _=>cases h
 |agg _ xs hl hx=>exact⟨xs,rfl,hl,hx⟩
theorem adg{X:Cx}{cs:List V}{x:Value}(h:aZ X (.tuple cs) x) :
  ∃xs:Array Value,x=.tuple xs∧cs.length=xs.size∧∀(i:Nat) (v:V) (y:Value),cs[i]?=some v→xs[i]?=some y→aZ X v y:=by
 cases h with
 |plain h _=>cases h
 |tuple _ xs hl hx=>exact⟨xs,rfl,hl,hx⟩
theorem aZ.int{X:Cx}(k:IntKind)(n:Int):aZ X (.int k n) (.int k n):=.plain (.int k n) (fun _ _ _ e=>by cases e)
theorem aZ.bool{X:Cx}(b:Bool):aZ X (.bool b) (.bool b):=.plain (.bool b) (fun _ _ _ e=>by cases e)
structure PW(X:Cx)(cs:List V)(xs:List Value):Prop where
 len:cs.length=xs.length
 at_:∀(i:Nat) (v:V) (y:Value),cs[i]?=some v→xs[i]?=some y→aZ X v y
theorem fa.Ba{h:Array Obj}{m:Nat→Nat}{v:V}{x:Value}(hr:fa h m v x):x.oneCell'=true:=by
 cases hr<;>rfl
theorem MC{X:Cx}{v:V}{x:Value}(h:aZ X v x)(hc:v.cI=true):x.oneCell'=true:=by
 cases h with
 |plain h _=>exact h.Ba
 |e9 h=>exact h.Ba
 |dX h=>rcases h with rfl | ⟨a,rfl⟩<;>rfl
 |p8 _ _ h _=>rcases h with rfl | ⟨a,rfl⟩<;>rfl
 |s8 _ _ _ h=>rcases h with rfl | ⟨a,rfl⟩<;>rfl
 |undef=>simp[V.cI]at hc
 |agg=>simp[V.cI]at hc
 |tuple=>simp[V.cI]at hc
 |_=>rfl
theorem fa.cells{h:Array Obj}{m:Nat→Nat}{v:V}{x:Value}(hr:fa h m v x):x.cells = #[x]:=by
 cases hr<;>rfl
theorem CR{X:Cx}{v:V}{x:Value}(h:aZ X v x)(hu:∀u∈v.cells,u.cI=true):PW X v.cells x.cells.toList:=by
 cases h with
 |undef=>exact absurd (hu .undef (by simp[V.cells])) (by simp[V.cI])
 |plain h ht =>
  have hx:=h.cells;have hv:v.cells=[v]:=by cases h<;>rfl
  rw[hv,hx];refine⟨rfl,fun i u y hu hy=>?_⟩;cases i with
  |zero=>simp at hu hy;subst hu;subst hy;exact .plain h ht
  |succ j=>simp at hu
 |dX h =>
  refine⟨by rcases h with rfl | ⟨a,rfl⟩<;>rfl,fun i u y hu hy=>?_⟩
  have hx:x.cells = #[x]:=by rcases h with rfl | ⟨a,rfl⟩<;>rfl
  rw[hx]at hy;cases i with
  |zero=>simp[V.cells]at hu hy;subst hu;subst hy;exact .dX h
  |succ j=>simp[V.cells]at hu
 |fx n a cap=>exact⟨rfl,fun i u y hu hy=>by cases i with|zero=>(simp[V.cells,Value.cells]at hu hy;subst hu;subst hy;exact .fx n a cap)|succ j=>simp[V.cells]at hu⟩
 |e9 h =>
  rename_i n es;have hx:=h.cells;have hv:(V.e9 n es).cells=[.e9 n es]:=rfl;rw[hv,hx];refine⟨rfl,fun i u y hu hy=>?_⟩;cases i with
  |zero=>simp at hu hy;subst hu;subst hy;exact .e9 h
  |succ j=>simp at hu
 |agg cs xs hl hx=>exact⟨by simpa [V.cells,Value.cells] using hl,fun i u y hu hy=>hx i u y hu (by simpa [Value.cells] using hy)⟩
 |tuple cs xs hl hx=>exact absurd (hu (.tuple cs) (by simp[V.cells])) (by simp[V.cI])
 |bG id off=>exact⟨rfl,fun i u y hu hy=>by cases i with|zero=>(simp[V.cells,Value.cells]at hu hy;subst hu;subst hy;exact .bG id off)|succ j=>simp[V.cells]at hu⟩
 |bP id off n cap h hc=>exact⟨rfl,fun i u y hu hy=>by cases i with|zero=>(simp[V.cells,Value.cells]at hu hy;subst hu;subst hy;exact .bP id off n cap h hc)|succ j=>simp[V.cells]at hu⟩
 |bI i off h=>exact⟨rfl,fun i u y hu hy=>by cases i with|zero=>(simp[V.cells,Value.cells]at hu hy;subst hu;subst hy;exact .bI _ off h)|succ j=>simp[V.cells]at hu⟩
 |fm id s off n cap h=>exact⟨rfl,fun i u y hu hy=>by cases i with|zero=>(simp[V.cells,Value.cells]at hu hy;subst hu;subst hy;exact .fm id s off n cap h)|succ j=>simp[V.cells]at hu⟩
 |da i s n cap h hl=>exact⟨rfl,fun i u y hu hy=>by cases i with|zero=>(simp[V.cells,Value.cells]at hu hy;subst hu;subst hy;exact .da _ s n cap h hl)|succ j=>simp[V.cells]at hu⟩
 |gX i s off n cap h hl=>exact⟨rfl,fun i u y hu hy=>by cases i with|zero=>(simp[V.cells,Value.cells]at hu hy;subst hu;subst hy;exact .gX _ s off n cap h hl)|succ j=>simp[V.cells]at hu⟩
 |p8 id s h hc =>
  refine⟨by rcases h with rfl | ⟨a,rfl⟩<;>rfl,fun i u y hu hy=>?_⟩
  have hx:x.cells = #[x]:=by rcases h with rfl | ⟨a,rfl⟩<;>rfl
  rw[hx]at hy;cases i with
  |zero=>simp[V.cells]at hu hy;subst hu;subst hy;exact .p8 id s h hc
  |succ j=>simp[V.cells]at hu
 |s8 k s h hz =>
  refine⟨by rcases hz with rfl | ⟨a,rfl⟩<;>rfl,fun i u y hu hy=>?_⟩
  have hx:x.cells = #[x]:=by rcases hz with rfl | ⟨a,rfl⟩<;>rfl
  rw[hx]at hy;cases i with
  |zero=>simp[V.cells]at hu hy;subst hu;subst hy;exact .s8 k s h hz
  |succ j=>simp[V.cells]at hu
 |fQ=>exact⟨rfl,fun i u y hu hy=>by cases i with|zero=>(simp[V.cells,Value.cells]at hu hy;subst hu;subst hy;exact .fQ)|succ j=>simp[V.cells]at hu⟩
 |eI row off b o ys hb hc hv hp hm=>exact⟨rfl,fun i u y hu hy=>by cases i with|zero=>(simp[V.cells,Value.cells]at hu hy;subst hu;subst hy;exact .eI row off b o ys hb hc hv hp hm)|succ j=>simp[V.cells]at hu⟩
 |fn f cap xs hl hx=>exact⟨rfl,fun i u y hu hy=>by cases i with|zero=>(simp[V.cells,Value.cells]at hu hy;subst hu;subst hy;exact .fn f cap xs hl hx)|succ j=>simp[V.cells]at hu⟩
 |fR=>exact⟨rfl,fun i u y hu hy=>by cases i with|zero=>(simp[V.cells,Value.cells]at hu hy;subst hu;subst hy;exact .fR)|succ j=>simp[V.cells]at hu⟩
 |map i h=>exact⟨rfl,fun i u y hu hy=>by cases i with|zero=>(simp[V.cells,Value.cells]at hu hy;subst hu;subst hy;exact .map _ h)|succ j=>simp[V.cells]at hu⟩
 |fS=>exact⟨rfl,fun i u y hu hy=>by cases i with|zero=>(simp[V.cells,Value.cells]at hu hy;subst hu;subst hy;exact .fS)|succ j=>simp[V.cells]at hu⟩
theorem MD{X:Cx}{v:V}{x:Value}(h:aZ X v x):aZ X v.iV x:=by
 cases h with
 |e9 h=>exact .plain h (fun _ _ _ e=>by cases e)
 |dX h=>exact .dX h
 |fx n a cap=>exact .fx n a cap
 |plain h t=>cases h<;>exact .plain (by first|exact .int _ _|exact .bool _|exact .str _|exact .b9|exact .nil _ _|exact .empty _ _ _ _|(rename_i a b c d e f g i;exact .slice _ _ _ _ _ _ _ (by assumption) (by assumption) (by assumption) (by assumption) (by assumption) (by assumption) (by assumption))) t
 |undef=>exact .undef
 |bG=>exact .bG _ _
 |bP _ _ _ _ h hc=>exact .bP _ _ _ _ h hc
 |bI _ _ h=>exact .bI _ _ h
 |p8 _ _ h hc=>exact .p8 _ _ h hc
 |fm _ _ _ _ _ h=>exact .fm _ _ _ _ _ h
 |da _ _ _ _ h hl=>exact .da _ _ _ _ h hl
 |s8 _ _ h hz=>exact .s8 _ _ h hz
 |gX _ _ _ _ _ h hl=>exact .gX _ _ _ _ _ h hl
 |fQ=>exact .fQ
 |eI row off b o ys hb hc hv hp hm=>exact .eI row off b o ys hb hc hv hp hm
 |fn f cap xs hl hx=>exact .fn f cap xs hl hx
 |fR=>exact .fR
 |map _ h=>exact .map _ h
 |fS=>exact .fS
 |agg cs xs hl hx=>exact .agg cs xs hl hx
 |tuple cs xs hl hx=>exact .tuple cs xs hl hx
theorem S8{X:Cx}{v:V}{x:Value}(h:aZ X v x):aZ X v.kq x:=by
 have key:(∃cs,v=.agg cs)∨v.kq=v.iV:=by
  cases v<;>first|(left;exact⟨_,rfl⟩)|(right;rfl)
 rcases key with⟨cs,rfl⟩ | e
 ·obtain⟨xs,e,hl,hx⟩:=qb h
  subst e;refine .agg _ _ (by simpa using hl) (fun i u y hu hy=>?_)
  rw[tN]at hu;cases hc:cs[i]? with
  |none=>simp[hc]at hu
  |some z =>
   simp[hc]at hu;subst hu;exact MD (hx i z y hc hy)
 ·rw[e];exact MD h
theorem adh{X:Cx}{r:jc}{v:V}{x:Value}(h:aZ X v x):aZ X (rT r v) x:=by
 cases r
 ·exact h
 ·exact S8 h
 ·exact h
def cd(P:Program)(E:Entry)(o:Oper)(S:St)(S':St)(a:Act)(w:World):Prop :=
 ∀(K:Act→World→Prop) (Q:Exit→Act→World→Prop),(∀g' a' w',R E g' S' a' w'→K a' w')→o.wp P a w K Q
theorem cd.value{o:Oper}{S S':St}{x:Value}{g':Gh}{w':World}(ah:(execOp a.eval o).run P w=.ok (.value x) w')(hR:R E g' S' (a.put o.dst x) w') :
  cd P E o S S' a w:=fun K Q hK=>by
 unfold Oper.wp;rw[ah,Oper.upon_value];exact hK _ _ _ hR
theorem cd.skip{o:Oper}{S S':St}{g':Gh}{w':World}(ah:(execOp a.eval o).run P w=.ok .skip w')(hd:o.dst=none)(hR:R E g' S' a w') :
  cd P E o S S' a w:=fun K Q hK=>by
 unfold Oper.wp;rw[ah,Oper.upon_skip,hd];exact hK _ _ _ hR
theorem cd.put{o:Oper}{v:V}{x:Value}(hR:R E g S a w)(hd:∀d,o.dst=some d→d<E.nt)
  (ah:(execOp a.eval o).run P w=.ok (.value x) w) (hx:aZ (S.cx g w) v x):cd P E o S (S.put o.dst v) a w :=
 .value ah (hR.put hd hx)
theorem S9{o:Oper}{y:Operand}{x:bp}{S':St}{C:br}(ho:o.op=.move y∨o.op=.assign y)(hx:bO y x=true)(hR:R E g S a w)
  (hd:∀d,o.dst=some d→d<E.nt) (ah:VO.run C o.dst S (.mv x)=some S'):cd P E o S S' a w:=by
 simp only[VO.run]at ah;split at ah
 ·rename_i v hv
  cases ah;refine cd.put hR hd (x:=a.eval y) ?_ (cS hR hx hv);rcases ho with ho|ho<;>simp[execOp,ho]
 ·cases ah
theorem adi{o:Oper}{c p q:Operand}{c' p' q':bp}{S':St}{C:br}(ho:o.op=.pick c p q)(hc:bO c c'=true)(hp:bO p p'=true)(hq:bO q q'=true)
  (hR:R E g S a w) (hd:∀d,o.dst=some d→d<E.nt) (ah:VO.run C o.dst S (.pick c' p' q')=some S'):cd P E o S S' a w:=by
 simp only[VO.run]at ah;split at ah
 ·rename_i t ht
  split at ah
  ·rename_i v hv
   cases ah;have h1:=zL (cS hR hc ht);refine cd.put hR hd (x:=if t then a.eval p else a.eval q) ?_ ?_
   ·simp[execOp,ho,h1,asBool]
   ·cases t
    ·exact cS hR hq hv
    ·exact cS hR hp hv
  ·cases ah
 ·cases ah
theorem adj(op:BinOp)(t:TypeId)(x y:Operand)(k k':IntKind)(m n:Int):(eqGuard op t x y (.int k m) (.int k' n)).run P w=.ok () w:=by
 unfold eqGuard;split<;>simp
theorem adk(op:BinOp)(t:TypeId)(x y:Operand)(m n:Bool):(eqGuard op t x y (.bool m) (.bool n)).run P w=.ok () w:=by
 unfold eqGuard;split<;>simp
theorem iN{t:TypeId}{d:TypeDesc}(h:P.underlying t=some d):(underlying t).run P w=.ok d w:=by
 unfold underlying;simp[h]
omit E g S a in
theorem adl{op:BinOp}{t:TypeId}{k:IntKind}{m n:Int}{v:V}(h:E9 op k m n=some v) :
  ∃x,(binOp op t (.int k m) (.int k n)).run P w=.ok x w∧∀X:Cx,aZ X v x:=by
 unfold E9 at h;split at h
 all_goals (try (cases h;done))
 all_goals (try (split at h;· cases h))
 all_goals (cases h)
 all_goals first
  |(refine⟨_,?_,fun X=>aZ.int _ _⟩;simp[binOp,Op.intArith];done)
  |(refine⟨_,?_,fun X=>aZ.int _ _⟩;simp[binOp,Op.intDiv, *];done)
  |(refine⟨_,?_,fun X=>aZ.int _ _⟩;simp[binOp,Op.shift, *];done)
  |(refine⟨_,?_,fun X=>aZ.bool _⟩;simp[binOp,Op.intCmp];done)
theorem adm{o:Oper}{op:BinOp}{t t':TypeId}{p q:Operand}{x y:bp}{S':St}{C:br}(ho:o.op=.binOp op t p q t')(hp:bO p x=true)(hq:bO q y=true)
  (hR:R E g S a w) (hd:∀d,o.dst=some d→d<E.nt) {k:IntKind} {m:Int} {k':IntKind} {n:Int} (h1:S.ev x=some (.int k m)) (h2:S.ev y=some (.int k' n))
  (ah:VO.run C o.dst S (.bin op x y)=some S'):cd P E o S S' a w:=by
 simp only[VO.run,h1,h2,V.bin]at ah;by_cases hk:k=k'
 ·subst hk
  simp only[decide_true,bC]at ah;split at ah
  ·rename_i v hv
   cases ah;have e1:=lX (cS hR hp h1);have e2:=lX (cS hR hq h2);obtain⟨z,hz,hx⟩:=adl (P:=P) (w:=w) (t:=t) hv;refine cd.put hR hd (x:=z) ?_ (hx _);simp[execOp,ho,e1,e2,adj,hz]
  ·cases ah
 ·simp[hk]at ah
theorem adn{t:TypeId}(ht:P.underlying t=some .bool)(m n:Bool):(Op.equal t (.bool m) (.bool n)).run P w=.ok (m==n) w:=by
 unfold Op.equal;rw[show Op.maxDepth=9999+1 from rfl,Op.equalIn];simp[iN ht]
theorem ado{o:Oper}{neg:Bool}{t t':TypeId}{p q:Operand}{x y:bp}{S':St}{C:br}(ho:o.op=.binOp (if neg then .neq else .eql) t p q t')(ht:P.underlying t=some .bool)(hp:bO p x=true)(hq:bO q y=true)
  (hR:R E g S a w) (hd:∀d,o.dst=some d→d<E.nt) (ah:VO.run C o.dst S (.beq neg x y)=some S'):cd P E o S S' a w:=by
 simp only[VO.run]at ah;split at ah
 ·rename_i m n h1 h2
  cases ah;have e1:=zL (cS hR hp h1);have e2:=zL (cS hR hq h2);refine cd.put hR hd (x:=.bool (bif neg then m != n else m==n)) ?_ (aZ.bool _);cases neg<;>simp[execOp,ho,e1,e2,adk,binOp,adn ht];cases m<;>cases n<;>rfl
 ·cases ah
theorem adp{o:Oper}{op:BinOp}{t t':TypeId}{p q:Operand}{x y:bp}{S':St}{C:br}(ho:o.op=.binOp op t p q t')(hp:bO p x=true)(hq:bO q y=true)
  (hR:R E g S a w) (hd:∀d,o.dst=some d→d<E.nt) (ah:VO.run C o.dst S (.bin op x y)=some S'):cd P E o S S' a w:=by
 have Bb:=ah;simp only[VO.run]at ah;split at ah
 ·rename_i u v h1 h2
  split at ah
  ·rename_i z hz
   unfold V.bin at hz;split at hz
   ·exact adm ho hp hq hR hd h1 h2 Bb
   ·cases hz
  ·cases ah
 ·cases ah
theorem adq{o:Oper}{op:UnOp}{t:TypeId}{p:Operand}{x:bp}{S':St}{C:br}(ho:o.op=.unOp op t p)(hp:bO p x=true)
  (hR:R E g S a w) (hd:∀d,o.dst=some d→d<E.nt) (ah:VO.run C o.dst S (.un op x)=some S'):cd P E o S S' a w:=by
 simp only[VO.run]at ah;split at ah
 ·rename_i u hu
  have hr:=cS hR hp hu;split at ah
  ·rename_i v hv
   cases ah;unfold V.un at hv;split at hv
   ·have e:=zL hr
    split at hv<;>cases hv;refine cd.put hR hd (x:=_) ?_ (aZ.bool _);simp[execOp,ho,e,Op.unary]
    try rfl
   ·have e:=lX hr
    split at hv<;>cases hv;refine cd.put hR hd (x:=_) ?_ (aZ.int _ _);simp[execOp,ho,e,Op.unary,Op.intArith]
    try rfl
   ·cases hv
  ·cases ah
 ·cases ah
theorem adr{o:Oper}{s t:TypeId}{k:IntKind}{d:TypeDesc}{p:Operand}{x:bp}{S':St}{C:br}(ho:o.op=.convert s t p)(hs:P.underlying s=some d)(ht:P.underlying t=some (.int k))(hp:bO p x=true)
  (hR:R E g S a w) (hd:∀d,o.dst=some d→d<E.nt) (ah:VO.run C o.dst S (.conv k x)=some S'):cd P E o S S' a w:=by
 simp only[VO.run]at ah;split at ah
 ·rename_i j n hn
  cases ah;have e:=lX (cS hR hp hn);refine cd.put hR hd (x:=_) ?_ (aZ.int _ _);simp[execOp,ho,e,convert,iN hs,iN ht,Conv.intToInt]
  try rfl
 ·cases ah
theorem ads{o:Oper}{p:Operand}{x:bp}{S':St}{C:br}(ho:o.op=.nilCheck p)(hp:bO p x=true)
  (hR:R E g S a w) (hd:∀d,o.dst=some d→d<E.nt) (ah:VO.run C o.dst S (.sY x)=some S'):cd P E o S S' a w:=by
 simp only[VO.run]at ah;split at ah
 ·rename_i i f hv
  cases ah;have hr:=cS hR hp hv;have e:=zM hr;refine cd.put hR hd (x:=_) ?_ hr;simp[execOp,ho,e]
 ·rename_i i f hv
  cases ah;have hr:=cS hR hp hv;obtain⟨e,_⟩:=zN hr;refine cd.put hR hd (x:=_) ?_ hr;simp[execOp,ho,e]
 ·rename_i r f hv
  cases ah;have hr:=cS hR hp hv;obtain⟨b,o',e⟩:∃b o',a.eval p=.pointer (some ⟨b,o',none⟩):=by
   generalize a.eval p=z at hr;cases hr with
   |plain h _=>cases h
   |eI _ _ b o'=>exact⟨b,_,rfl⟩
  refine cd.put hR hd (x:=_) ?_ hr;simp[execOp,ho,e]
 ·cases ah
theorem Ta{X:Cx}{v:V}{x:Value}(h:aZ X v x)(n:Nat) :
  (∀i o,v=.bG i o→∃b f,x=.pointer (some ⟨b,f,none⟩)∧aZ X (.bG i (o+n)) (.pointer (some ⟨b,f+n,none⟩))) ∧
  (∀i o,v=.bI i o→∃b f,x=.pointer (some ⟨b,f,none⟩)∧aZ X (.bI i (o+n)) (.pointer (some ⟨b,f+n,none⟩))) ∧
  (∀r o,v=.eI r o→∃b f,x=.pointer (some ⟨b,f,none⟩)∧aZ X (.eI r (o+n)) (.pointer (some ⟨b,f+n,none⟩))):=by
 refine⟨fun i o e=>?_,fun i o e=>?_,fun r o e=>?_⟩
 ·subst e;rw[zM h];exact⟨_,_,rfl,.bG _ _⟩
 ·subst e;obtain⟨e,hi⟩:=zN h;rw[e];exact⟨_,_,rfl,.bI _ _ hi⟩
 ·subst e
  cases h with
  |plain h _=>cases h
  |eI _ _ b o' ys hb hc hv hp hm=>exact⟨_,_,rfl,by rw[AZ];exact .eI r (o+n) b o' ys hb hc hv hp hm⟩
theorem jX(b f n:Nat):(⟨b,f,none⟩:Addr).add n=⟨b,f+n,none⟩:=by
 unfold Addr.add;split
 ·simp[*]
 ·rfl
theorem nZ{t:TypeId}{n:Nat}(h:(P.info? t).map (·.size)=some n):(sizeOf t).run P w=.ok n w:=by
 cases hi:P.info? t with
 |none=>simp[hi]at h
 |some i=>simp[hi]at h;simp[sizeOf,typeInfo,hi,h]
theorem adt{o:Oper}{s:TypeId}{fi off:Nat}{fs:Array Field}{f:Field}{n:Nat}{p:Operand}{x:bp}{S':St}{C:br}(ho:o.op=.fieldAddr s p fi)(hs:P.underlying s=some (.struct fs))
  (hf:fs[fi]?=some f) (hn:(P.info? f.type).map (·.size)=some n) (h0:n≠0) (iW:f.offset=off) (hp:bO p x=true)
  (hR:R E g S a w) (hd:∀d,o.dst=some d→d<E.nt) (ah:VO.run C o.dst S (.rM off x)=some S'):cd P E o S S' a w:=by
 simp only[VO.run]at ah;split at ah
 all_goals first|(cases ah;done)|skip
 all_goals
  rename_i hv;cases ah;obtain⟨m1,m2,m3⟩:=Ta (cS hR hp hv) off
 ·obtain⟨b,q,e,hr⟩:=m1 _ _ rfl
  refine cd.put hR hd (x:=_) ?_ hr;simp[execOp,ho,e,Instr.fieldAt,iN hs,hf,Instr.sureAddr,fieldPlace,nZ hn,h0,iW,jX]
 ·obtain⟨b,q,e,hr⟩:=m2 _ _ rfl
  refine cd.put hR hd (x:=_) ?_ hr;simp[execOp,ho,e,Instr.fieldAt,iN hs,hf,Instr.sureAddr,fieldPlace,nZ hn,h0,iW,jX]
 ·obtain⟨b,q,e,hr⟩:=m3 _ _ rfl
  refine cd.put hR hd (x:=_) ?_ hr;simp[execOp,ho,e,Instr.fieldAt,iN hs,hf,Instr.sureAddr,fieldPlace,nZ hn,h0,iW,jX]
theorem adu{o:Oper}{t:TypeId}{len:Nat}{el:TypeId}{sz:Nat}{p q:Operand}{x i:bp}{S':St}{C:br}(ho:o.op=.indexAddr t p q)(ht:P.underlying t=some (.array len el))
  (hn:(P.info? el).map (·.size)=some sz) (hR:R E g S a w) (hp:∀v,S.ev x=some v→aZ (S.cx g w) v (a.eval p)) (hq:bO q i=true)
  (hd:∀d,o.dst=some d→d<E.nt) (ah:VO.run C o.dst S (.nx (some len) sz x i)=some S'):cd P E o S S' a w:=by
 simp only[VO.run]at ah;split at ah
 ·rename_i u k m hu hm
  have e2:=lX (cS hR hq hm);cases hc:(decide (0≤m)&&decide (m<(len:Int))) with
  |false=>simp[hc]at ah
  |true =>
   simp only[hc,bC]at ah;simp only[bQ,jA]at hc;have hr:=hp _ hu;obtain⟨m1,m2,m3⟩:=Ta hr (m.toNat*sz);split at ah<;>first|(cases ah;done)|skip
   all_goals cases ah
   ·obtain⟨b,f,e,hx⟩:=m1 _ _ rfl
    refine cd.put hR hd (x:=_) ?_ hx;simp[execOp,ho,e,e2,Instr.indexAt,asIntOf,iN ht,Instr.sureAddr,nZ hn,hc,jX]
   ·obtain⟨b,f,e,hx⟩:=m2 _ _ rfl
    refine cd.put hR hd (x:=_) ?_ hx;simp[execOp,ho,e,e2,Instr.indexAt,asIntOf,iN ht,Instr.sureAddr,nZ hn,hc,jX]
   ·obtain⟨b,f,e,hx⟩:=m3 _ _ rfl
    refine cd.put hR hd (x:=_) ?_ hx;simp[execOp,ho,e,e2,Instr.indexAt,asIntOf,iN ht,Instr.sureAddr,nZ hn,hc,jX]
 ·cases ah
theorem eJ{α:Type}{l:List α}{i:Nat}{x:α}(h:l[i]?=some x):i<l.length:=by
 rcases cF i l.length with h' | h'
 ·exact h'
 ·simp[kF h']at h
theorem adv{o:Oper}{t:TypeId}{el:TypeId}{sz:Nat}{p q:Operand}{x i:bp}{S':St}{C:br}(ho:o.op=.indexAddr t p q)(ht:P.underlying t=some (.slice el))
  (hn:(P.info? el).map (·.size)=some sz) (hp:bO p x=true) (hq:bO q i=true)
  (hR:R E g S a w) (hd:∀d,o.dst=some d→d<E.nt) (ah:VO.run C o.dst S (.nx none sz x i)=some S'):cd P E o S S' a w:=by
 simp only[VO.run]at ah;split at ah
 ·rename_i tk m es k z hu hm
  have e2:=lX (cS hR hq hm);cases hc:(decide (0≤z)&&(m==sz)) with
  |false=>simp[hc]at ah
  |true =>
   simp only[hc,bC]at ah;simp only[bQ,jA,dO]at hc;obtain⟨hz,rfl⟩:=hc;split at ah
   ·rename_i row iw
    cases ah;have bB:=eJ iw;have hr:=cS hR hp hu;obtain⟨b,off,cap,ys,e,hb,en,h1,h2,h3,h3p,h4⟩:∃(b off cap:Nat) (ys:Nat→Nat→Value),a.eval p=.slice (some ⟨b,off,none⟩) es.length cap∧b<w.heap.size∧es.length≤cap ∧
      (∀(i:Nat) (row:List V),es[i]?=some row→row.length=m) ∧
      (∀(i:Nat) (row:List V) (j:Nat) (v:V),es[i]?=some row→row[j]?=some v→cellAt w.heap b (off+i*m+j)=some (ys i j)) ∧
      (∀(i:Nat) (row:List V) (j:Nat) (v:V),es[i]?=some row→row[j]?=some v→fa w.heap g.m v (ys i j)) ∧
      (∀(i:Nat) (row:List V) (j:Nat) (v:V),es[i]?=some row→row[j]?=some v→v.plain=true)∧off+es.length*m≤g.m b:=by
     generalize a.eval p=y at hr;cases hr with
     |plain h _ =>
      cases h with
      |nil=>simp at bB
      |empty=>simp at bB
      |slice _ _ _ b off cap ys hb en iw hc hv hp hm=>exact⟨b,off,cap,ys,rfl,hb,en,iw,hc,hv,hp,hm⟩
    refine cd.put hR hd (x:=.pointer (some ⟨b,off+z.toNat*m,none⟩)) ?_ ?_
    ·have Bc:z<(es.length:Int):=by omega
     simp[execOp,ho,e,e2,Instr.indexAt,asIntOf,iN ht,nZ hn,hz,Bc,jX]
    ·refine .eI row 0 b (off+z.toNat*m) (ys z.toNat) hb (fun j v hj=>h2 _ row j v iw hj) (fun j v hj=>h3 _ row j v iw hj) (fun j v hj=>h3p _ row j v iw hj) ?_
     have:=h1 _ row iw;have h5:z.toNat*m+m≤es.length*m:=by
      have:=rI m bB;rw[nU]at this;exact this
     show off+z.toNat*m+row.length≤g.m b;omega
   ·cases ah
 ·rename_i id off len k z hu hm
  have e2:=lX (cS hR hq hm);cases hc:(decide (0≤z)&&decide (z<(len:Int))&&(off==sz)) with
  |false=>simp[hc]at ah
  |true =>
   simp only[hc,bC]at ah;simp only[bQ,jA]at hc;cases ah;have hr:=cS hR hp hu;rcases qa hr with⟨cap,en,_,hy⟩ | ⟨h0,_⟩
   ·refine cd.put hR hd (x:=.pointer (some ⟨g.κ id,z.toNat*sz,none⟩)) ?_ (.bG _ _)
    simp[execOp,ho,hy,e2,Instr.indexAt,asIntOf,iN ht,nZ hn,hc.1,jX];rfl
   ·omega
 ·rename_i id off len k z hu hm
  have e2:=lX (cS hR hq hm);cases hc:(decide (0≤z)&&decide (z<(len:Int))&&(off==sz)) with
  |false=>simp[hc]at ah
  |true =>
   simp only[hc,bC]at ah;simp only[bQ,jA]at hc;cases ah;have hr:=cS hR hp hu;obtain⟨hi,⟨cap,en,hy⟩ | ⟨h0,_⟩⟩:=CQ hr
   ·refine cd.put hR hd (x:=.pointer (some ⟨g.γ id,z.toNat*sz,none⟩)) ?_ (.bI _ _ hi)
    simp[execOp,ho,hy,e2,Instr.indexAt,asIntOf,iN ht,nZ hn,hc.1,jX];rfl
   ·omega
 ·cases ah
theorem adw{o:Oper}{t e:TypeId}{ts:Array TypeId}{p:Operand}{x:bp}{S':St}{C:br}(ho:o.op=.call ⟨.builtin .len,#[p],ts⟩)(wJ:ts[0]?=some t)
  (ht:P.underlying t=some (.slice e)) (hp:bO p x=true)
  (hR:R E g S a w) (hd:∀d,o.dst=some d→d<E.nt) (ah:VO.run C o.dst S (.len x)=some S'):cd P E o S S' a w:=by
 have go:∀(v:V) (n:Nat),S.ev x=some v→(∃q cap,a.eval p=.slice q n cap)→cd P E o S (S.put o.dst (.int .i64 n)) a w:=by
  intro v n hv ⟨q,cap,e⟩;refine cd.put hR hd (x:=.int .i64 n) ?_ (aZ.int _ _);simp[execOp,ho,resolve,invoke,builtin,Builtin.len_,wJ,e,iN ht,goInt]
 simp only[VO.run]at ah;split at ah
 ·rename_i hv
  cases ah;exact go _ 0 hv ⟨none,0,nY (cS hR hp hv)⟩
 ·rename_i n hv
  cases ah;refine go _ 0 hv ?_;rcases ta (cS hR hp hv) with e | ⟨a,e⟩
  ·exact⟨_,_,e⟩
  ·exact⟨_,_,e⟩
 ·rename_i n hv
  cases ah;refine go _ 0 hv ?_;obtain⟨a,cap,e⟩:=Fe (cS hR hp hv);exact⟨_,_,e⟩
 ·rename_i tk n es hv
  cases ah;have hr:=cS hR hp hv;refine go _ _ hv ?_;generalize a.eval p=y at hr;cases hr with
  |plain h _=>cases h with
   |nil=>exact⟨none,0,rfl⟩
   |empty _ _ a cap=>exact⟨some a,cap,rfl⟩
   |slice=>exact⟨_,_,rfl⟩
 ·rename_i i f n hv
  cases ah;have hr:=cS hR hp hv;refine go _ _ hv ?_;rcases qa hr with⟨cap,_,_,hy⟩ | ⟨h0,hy | ⟨a,hy⟩,_⟩
  ·exact⟨_,_,hy⟩
  ·subst h0;exact⟨_,_,hy⟩
  ·subst h0;exact⟨_,_,hy⟩
 ·rename_i i f n hv
  cases ah;have hr:=cS hR hp hv;refine go _ _ hv ?_;obtain⟨_,⟨cap,_,hy⟩ | ⟨h0,hy | ⟨a,hy⟩⟩⟩:=CQ hr
  ·exact⟨_,_,hy⟩
  ·subst h0;exact⟨_,_,hy⟩
  ·subst h0;exact⟨_,_,hy⟩
 ·cases ah
theorem adx{o:Oper}{t e:TypeId}{ts:Array TypeId}{p:Operand}{x:bp}{S':St}{C:br}(ho:o.op=.call ⟨.builtin .cap,#[p],ts⟩)(wJ:ts[0]?=some t)
  (ht:P.underlying t=some (.slice e)) (hp:bO p x=true)
  (hR:R E g S a w) (hd:∀d,o.dst=some d→d<E.nt) (ah:VO.run C o.dst S (.u7 x)=some S'):cd P E o S S' a w:=by
 simp only[VO.run]at ah;split at ah
 ·rename_i hv
  cases ah;have e:=nY (cS hR hp hv);refine cd.put hR hd (x:=.int .i64 0) ?_ (aZ.int _ _);simp[execOp,ho,resolve,invoke,builtin,Builtin.cap_,wJ,e,iN ht,goInt]
 ·cases ah
theorem ady{o:Oper}{t:TypeId}{ts:Array TypeId}{p:Operand}{x:bp}{S':St}{C:br}(ho:o.op=.call ⟨.builtin .len,#[p],ts⟩)(wJ:ts[0]?=some t)
  (ht:P.underlying t=some .string) (hp:bO p x=true)
  (hR:R E g S a w) (hd:∀d,o.dst=some d→d<E.nt) (ah:VO.run C o.dst S (.tW x)=some S'):cd P E o S S' a w:=by
 simp only[VO.run]at ah;split at ah
 ·rename_i l hv
  cases ah;obtain⟨s,e,hs⟩:=adb (cS hR hp hv);refine cd.put hR hd (x:=.int .i64 l.length) ?_ (aZ.int _ _);have:s.size=l.length:=by rw[←hs];simp
  simp[execOp,ho,resolve,invoke,builtin,Builtin.len_,wJ,e,iN ht,goInt,this]
 ·cases ah
theorem adz{o:Oper}{k:Nat}{p:Operand}{x:bp}{S':St}{C:br}(ho:o.op=.extract p k)(hp:bO p x=true)
  (hR:R E g S a w) (hd:∀d,o.dst=some d→d<E.nt) (ah:VO.run C o.dst S (.ext x k)=some S'):cd P E o S S' a w:=by
 simp only[VO.run]at ah;split at ah
 ·rename_i vs hv
  split at ah
  ·rename_i v hk
   cases ah;obtain⟨xs,e,hl,hx⟩:=adg (cS hR hp hv);have bB:k<xs.size:=by rw[←hl];exact eJ hk
   refine cd.put hR hd (x:=xs[k]) ?_ (hx k v xs[k] hk (by simp[bB]))
   simp[execOp,ho,e,Instr.extract,bB]
  ·cases ah
 ·cases ah
theorem adA{o:Oper}{mx:Bool}{ts:Array TypeId}{p q:Operand}{x y:bp}{S':St}{C:br}(ho:o.op=.call ⟨.builtin (if mx then .max else .min),#[p,q],ts⟩)(hp:bO p x=true)(hq:bO q y=true)
  (hR:R E g S a w) (hd:∀d,o.dst=some d→d<E.nt) (ah:VO.run C o.dst S (.mm mx x y)=some S'):cd P E o S S' a w:=by
 simp only[VO.run]at ah;split at ah
 ·rename_i k m k' n hm hn
  cases ah;have e1:=lX (cS hR hp hm);have e2:=lX (cS hR hq hn);refine cd.put hR hd (x:=_) ?_ (aZ.int _ _);cases mx
  ·simp[execOp,ho,e1,e2,resolve,invoke,builtin,Builtin.min_,Builtin.min2]
   rw[Int.min_def];split<;>split<;>omega
  ·simp[execOp,ho,e1,e2,resolve,invoke,builtin,Builtin.max_,Builtin.max2]
   rw[Int.max_def];split<;>split<;>omega
 ·cases ah
theorem adB{o:Oper}{mx:Bool}{ts:Array TypeId}{p q r:Operand}{x y z:bp}{S':St}{C:br}(ho:o.op=.call ⟨.builtin (if mx then .max else .min),#[p,q,r],ts⟩)(hp:bO p x=true)(hq:bO q y=true)(hz:bO r z=true)
  (hR:R E g S a w) (hd:∀d,o.dst=some d→d<E.nt) (ah:VO.run C o.dst S (.tY mx x y z)=some S'):cd P E o S S' a w:=by
 simp only[VO.run]at ah;split at ah
 ·rename_i k m k' n k'' l hm hn hl
  cases ah;have e1:=lX (cS hR hp hm);have e2:=lX (cS hR hq hn);have e3:=lX (cS hR hz hl);refine cd.put hR hd (x:=_) ?_ (aZ.int _ _);cases mx
  ·simp[execOp,ho,e1,e2,e3,resolve,invoke,builtin,Builtin.min_,Builtin.min2]
   simp only[Int.min_def];repeat' split
   all_goals omega
  ·simp[execOp,ho,e1,e2,e3,resolve,invoke,builtin,Builtin.max_,Builtin.max2]
   simp only[Int.max_def];repeat' split
   all_goals omega
 ·cases ah
theorem adC{o:Oper}{f:FuncId}{xA:Array Operand}{cap:List bp}{S':St}{C:br}(ho:o.op=.makeFunc (.func (jb f)) #[] xA)(hc:cap.length=xA.size∧∀(i:Nat) x y,cap[i]?=some x→xA[i]?=some y→bO y x=true)
  (hR:R E g S a w) (hd:∀d,o.dst=some d→d<E.nt) (ah:VO.run C o.dst S (.vg f cap)=some S'):cd P E o S S' a w:=by
 have adD:∀{xs:List bp} {vs:List V},oM S xs=some vs→vs.length=xs.length∧∀(i:Nat) (v:V),vs[i]?=some v→∃x,xs[i]?=some x∧S.ev x=some v:=by
  intro xs;induction xs with
  |nil=>intro vs h;simp[oM]at h;subst h;simp
  |cons x xs ih =>
   intro vs h;simp only[oM]at h;split at h
   ·rename_i v CS h1 h2
    cases h;obtain⟨p,q⟩:=ih h2;refine⟨by simp[p],fun i u hu=>?_⟩
    cases i with
    |zero=>simp at hu;subst hu;exact⟨x,by simp,h1⟩
    |succ i=>obtain⟨z,hz,he⟩:=q i u (by simpa using hu);exact⟨z,by simpa using hz,he⟩
   ·cases h
 have adE:∀{vs us:List V},A5 vs=some us→us=vs∧∀v∈vs,∃i o,v=.bI i o:=by
  intro vs;induction vs with
  |nil=>intro us h;simp[A5]at h;subst h;simp
  |cons v vs ih =>
   intro us h;unfold A5 at h;split at h
   ·rename_i heq;cases heq
   ·rename_i i o CS heq
    cases heq;split at h
    ·rename_i m6 hu
     cases h;obtain⟨p,q⟩:=ih hu;subst p;exact⟨rfl,fun z hz=>by
      rcases ko.1 hz with e|e
      ·exact⟨_,_,e⟩
      ·exact q z e⟩
    ·cases h
   ·cases h
 simp only[VO.run]at ah;split at ah
 ·rename_i vs r0
  split at ah
  ·rename_i us oa
   cases ah;obtain⟨l1,g1⟩:=adD r0;obtain⟨rfl,g2⟩:=adE oa;refine cd.put hR hd (x:=.func (.func (jb f)) #[] (xA.map a.eval)) ?_ (.fn f us _ (by simp;omega) (fun j v hj=>?_))
   ·simp[execOp,ho,Instr.makeFunc]
   ·obtain⟨i,o',e⟩:=g2 v (gH hj)
    obtain⟨x,hx,xB⟩:=g1 j v hj;have bB:j<xA.size:=by have:=eJ hx;omega
    have hr:=cS hR (hc.2 j x xA[j] hx (by simp[bB])) xB
    subst e;obtain⟨e2,hi⟩:=zN hr;exact⟨i,o',rfl,hi,by simp[bB,e2]⟩
  ·cases ah
 ·cases ah
end
end Go.Vm
