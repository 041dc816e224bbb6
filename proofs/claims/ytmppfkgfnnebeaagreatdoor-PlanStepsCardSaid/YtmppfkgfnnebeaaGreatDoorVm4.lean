/- The value machine, 4: the operations that only compute. -/
import Derived.Test.YtmppfkgfnnebeaaGreatDoorVm3
namespace Go.Vm
set_option linter.all false
def KI:Value→V→Bool
 |.int k n,.int k' n'=>decide (k=k')&&n==n'
 |.bool b,.bool c=>b==c
 |.string s,.str l=>s.data.toList==l
 |.slice none 0 0,.cb=>true
 |.pointer none,.gq=>true
 |.nilFunc,.gu=>true
 |.map none,.gw=>true
 |_,_=>false
def vq:List Value→List V→Bool
 |[],[]=>true
 |x::xs,v::vs=>KI x v&&vq xs vs
 |_,_=>false
def KJ:Value→V→Bool
 |.agg xs,.agg cs=>vq xs.toList cs
 |x,v=>KI x v
theorem Wd{X:Cx}{x:Value}{v:V}(h:KI x v=true):bb X v x∧v.cL=true∧∀d,v.cq d=false:=by
 unfold KI at h;split at h
 ·simp at h;obtain⟨rfl,rfl⟩:=h
  exact⟨.plain (.int _ _) (fun _ _ _ e=>by cases e),rfl,fun _=>rfl⟩
 ·simp at h;subst h
  exact⟨.plain (.bool _) (fun _ _ _ e=>by cases e),rfl,fun _=>rfl⟩
 ·simp at h;subst h
  exact⟨.plain (.str _) (fun _ _ _ e=>by cases e),rfl,fun _=>rfl⟩
 ·exact⟨.plain .cb (fun _ _ _ e=>by cases e),rfl,fun _=>rfl⟩
 ·exact⟨.gq,rfl,fun _=>rfl⟩
 ·exact⟨.gu,rfl,fun _=>rfl⟩
 ·exact⟨.gw,rfl,fun _=>rfl⟩
 ·cases h
theorem Es{X:Cx}:∀{xs:List Value} {vs:List V},vq xs vs=true→vs.length=xs.length ∧
  (∀(i:Nat) (v:V) (x:Value),vs[i]?=some v→xs[i]?=some x→v.cL=true∧(∀d,v.cq d=false)∧bb X v x)
 |[],[],_=>⟨rfl,by simp⟩
 |[],_::_,h=>by simp[vq]at h
 |_::_,[],h=>by simp[vq]at h
 |x::xs,v::vs,h=>by
  simp only[vq,bS]at h;obtain⟨h1,h2⟩:=h;obtain⟨hl,hr⟩:=Es (X:=X) h2;refine⟨by simp[hl],fun i u y hu hy=>?_⟩
  cases i with
  |zero =>
   simp at hu hy;subst hu;subst hy;obtain⟨a,b,c⟩:=Wd (X:=X) h1;exact⟨b,c,a⟩
  |succ j=>exact hr j u y (by simpa using hu) (by simpa using hy)
theorem We{X:Cx}{x:Value}{v:V}(h:KJ x v=true):bb X v x:=by
 unfold KJ at h;split at h
 ·obtain⟨hl,hr⟩:=Es (X:=X) h
  exact .agg _ _ (by simpa using hl) (fun i v x hv hx=>(hr i v x hv (by simpa using hx)).2.2)
 ·exact(Wd h).1
def bU:Operand→bw→Bool
 |.tmp t,.t s=>t==s
 |.const v,.c u=>KJ v u
 |.func f,.c (.fn g [])=>f==jq g
 |_,_=>false
section
variable {P:Program} {E:Entry} {g:Gh} {S:St} {a:Act} {w:World}
theorem cY(hR:R E g S a w){y:Operand}{x:bw}(ho:bU y x=true){v:V}(hv:S.ev x=some v):bb (S.cx g w) v (a.eval y):=by
 unfold bU at ho;split at ho
 ·simp at ho;subst ho
  obtain⟨z,hz,hr⟩:=hR.env _ v hv;simp only[Act.eval];simpa [hz] using hr
 ·simp only[St.ev,Option.some.injEq]at hv;subst hv
  exact We ho
 ·simp at ho;subst ho
  simp only[St.ev,Option.some.injEq]at hv;subst hv;exact .fn _ [] #[] rfl (by simp)
 ·cases ho
def V.Wf:V→V→Bool
 |.int k n,.int l m=>decide (k=l)&&decide (n=m)
 |.bool a,.bool b=>a==b
 |.str a,.str b=>a==b
 |.fn f [],.fn g []=>f==g
 |_,_=>false
def KK:List V→List V→Bool
 |[],[]=>true
 |v::l,u::m=>v.Wf u&&KK l m
 |_,_=>false
theorem Wg:∀{l m:List V},KK l m=true→l=m
 |[],[],_=>rfl
 |v::l,u::m,h=>by
  simp only[KK,bS]at h;rw[Wg h.2];have h1:=h.1;unfold V.Wf at h1;split at h1<;>simp_all
 |[],_::_,h=>by cases h
 |_::_,[],h=>by cases h
def ON(T:Pk):Operand→bw→Bool
 |.global k,.c (.eP row 0)=>T.any fun p=>p.1==k&&KK p.2 row
 |_,_=>false
theorem ahB{T:Pk}(hT:∀p∈T,p∈E.T)(hR:R E g S a w){y:Operand}{x:bw}(ho:ON T y x=true){v:V}(hv:S.ev x=some v):bb (S.cx g w) v (a.eval y):=by
 unfold ON at ho;split at ho
 ·rename_i k row
  simp only[GO,bS,dO]at ho;obtain⟨⟨k',row'⟩,h1,rfl,h2⟩:=ho;obtain rfl:=Wg h2;simp only[St.ev,Option.some.injEq]at hv;subst hv;obtain⟨h3,h4,h5⟩:=hR.pk k' row' (hT _ h1);simp only[Act.eval];have h6:∀j,∃y,∀v,row'[j]?=some v→v.plain=true∧cellAt w.heap k' j=some y∧fg w.heap g.m v y:=fun j=>by
   cases hj:row'[j]? with
   |none=>exact⟨Go.undef,fun v h=>by cases h⟩
   |some v =>
    obtain⟨a1,y,a2,a3⟩:=h5 j v hj;exact⟨y,fun u h=>by cases h;exact⟨a1,a2,a3⟩⟩
  have:=bb.eP (X:=S.cx g w) row' 0 k' 0 (fun j=>(h6 j).choose) h3 (fun j v hj=>by rw[jV];exact((h6 j).choose_spec v hj).2.1) (fun j v hj=>((h6 j).choose_spec v hj).2.2) (fun j v hj=>((h6 j).choose_spec v hj).1) (by rw[jV];exact h4)
  simpa using this
 ·cases ho
theorem mI{X:Cx}{k:IntKind}{n:Int}{x:Value}(h:bb X (.int k n) x):x=.int k n:=by
 cases h with|plain h _=>cases h;rfl
theorem A9{X:Cx}{b:Bool}{x:Value}(h:bb X (.bool b) x):x=.bool b:=by
 cases h with|plain h _=>cases h;rfl
theorem uk{X:Cx}{n:Nat}{x:Value}(h:bb X (.dY n) x):lL x:=by
 cases h with
 |plain h _=>cases h
 |dY h=>exact h
theorem He{X:Cx}{n:Nat}{x:Value}(h:bb X (.fG n) x):∃a cap,x=.slice (some a) 0 cap:=by
 cases h with
 |plain h _=>cases h
 |fG n a cap=>exact⟨a,cap,rfl⟩
theorem oV{X:Cx}{x:Value}(h:bb X .cb x):x=.slice none 0 0:=by
 cases h with|plain h _=>cases h;rfl
theorem ahC{X:Cx}{l:List UInt8}{x:Value}(h:bb X (.str l) x):∃s:ByteArray,x=.string s∧s.data.toList=l:=by
 cases h with|plain h _=>cases h;exact⟨_,rfl,rfl⟩
theorem Ba{X:Cx}{id off:Nat}{x:Value}(h:bb X (.bJ id off) x):x=.pointer (some ⟨X.g.κ id,off,none⟩):=by
 cases h with
 |plain h _=>cases h
 |bJ=>rfl
theorem Bb{X:Cx}{i off:Nat}{x:Value}(h:bb X (.bm i off) x):x=.pointer (some ⟨X.g.γ i,off,none⟩)∧i<X.N:=by
 cases h with
 |plain h _=>cases h
 |bm _ _ h=>exact⟨rfl,h⟩
theorem Et{X:Cx}{i s n:Nat}{x:Value}(h:bb X (.c5 i s n) x):i<X.N∧((∃cap,n≤cap∧x=.slice (some ⟨X.g.γ i,0,none⟩) n cap)∨n=0∧lL x):=by
 cases h with
 |plain h _=>cases h
 |c5 _ _ _ cap h hl=>exact⟨h,.inl ⟨cap,hl,rfl⟩⟩
 |ui _ _ h hz=>exact⟨h,.inr ⟨rfl,hz⟩⟩
theorem ahD{X:Cx}{i s off n:Nat}{x:Value}(h:bb X (.g9 i s off n) x):i<X.N∧∃cap,n≤cap∧x=.slice (some ⟨X.g.γ i,off*s,none⟩) n cap:=by
 cases h with
 |plain h _=>cases h
 |g9 _ _ _ _ cap h hl=>exact⟨h,cap,hl,rfl⟩
theorem ahE{X:Cx}{id s off n:Nat}{x:Value}(h:bb X (.fp id s off n) x):∃cap,n≤cap∧x=.slice (some ⟨X.g.κ id,off*s,none⟩) n cap:=by
 cases h with
 |plain h _=>cases h
 |fp _ _ _ _ cap h=>exact⟨cap,h,rfl⟩
theorem qR{X:Cx}{id s n:Nat}{x:Value}(h:bb X (.bR id s n) x):(∃cap,n≤cap∧cap*s=X.g.cp id∧x=.slice (some ⟨X.g.κ id,0,none⟩) n cap)∨n=0∧lL x∧X.g.cp id=0:=by
 cases h with
 |plain h _=>cases h
 |bR _ _ _ cap h hc=>exact .inl ⟨cap,h,hc,rfl⟩
 |qP _ _ h hc=>exact .inr ⟨rfl,h,hc⟩
theorem qS{X:Cx}{cs:List V}{x:Value}(h:bb X (.agg cs) x) :
  ∃xs:Array Value,x=.agg xs∧cs.length=xs.size∧∀(i:Nat) (v:V) (y:Value),cs[i]?=some v→xs[i]?=some y→bb X v y:=by
 cases h with
 |plain h _=>cases h
 |agg _ xs hl hx=>exact⟨xs,rfl,hl,hx⟩
theorem ahF{X:Cx}{cs:List V}{x:Value}(h:bb X (.tuple cs) x) :
  ∃xs:Array Value,x=.tuple xs∧cs.length=xs.size∧∀(i:Nat) (v:V) (y:Value),cs[i]?=some v→xs[i]?=some y→bb X v y:=by
 cases h with
 |plain h _=>cases h
 |tuple _ xs hl hx=>exact⟨xs,rfl,hl,hx⟩
theorem bb.int{X:Cx}(k:IntKind)(n:Int):bb X (.int k n) (.int k n):=.plain (.int k n) (fun _ _ _ e=>by cases e)
theorem bb.bool{X:Cx}(b:Bool):bb X (.bool b) (.bool b):=.plain (.bool b) (fun _ _ _ e=>by cases e)
structure PW(X:Cx)(cs:List V)(xs:List Value):Prop where
 len:cs.length=xs.length
 at_:∀(i:Nat) (v:V) (y:Value),cs[i]?=some v→xs[i]?=some y→bb X v y
theorem fg.CF{h:Array Obj}{m:Nat→Nat}{v:V}{x:Value}(hr:fg h m v x):x.oneCell'=true:=by
 cases hr<;>rfl
theorem OO{X:Cx}{v:V}{x:Value}(h:bb X v x)(hc:v.cL=true):x.oneCell'=true:=by
 cases h with
 |plain h _=>exact h.CF
 |eF h=>exact h.CF
 |dY h=>rcases h with rfl | ⟨a,rfl⟩<;>rfl
 |qP _ _ h _=>rcases h with rfl | ⟨a,rfl⟩<;>rfl
 |ui _ _ _ h=>rcases h with rfl | ⟨a,rfl⟩<;>rfl
 |undef=>simp[V.cL]at hc
 |agg=>simp[V.cL]at hc
 |tuple=>simp[V.cL]at hc
 |_=>rfl
theorem fg.cells{h:Array Obj}{m:Nat→Nat}{v:V}{x:Value}(hr:fg h m v x):x.cells = #[x]:=by
 cases hr<;>rfl
theorem Eu{X:Cx}{v:V}{x:Value}(h:bb X v x)(hu:∀u∈v.cells,u.cL=true):PW X v.cells x.cells.toList:=by
 cases h with
 |undef=>exact absurd (hu .undef (by simp[V.cells])) (by simp[V.cL])
 |plain h ht =>
  have hx:=h.cells;have hv:v.cells=[v]:=by cases h<;>rfl
  rw[hv,hx];refine⟨rfl,fun i u y hu hy=>?_⟩;cases i with
  |zero=>simp at hu hy;subst hu;subst hy;exact .plain h ht
  |succ j=>simp at hu
 |dY h =>
  refine⟨by rcases h with rfl | ⟨a,rfl⟩<;>rfl,fun i u y hu hy=>?_⟩
  have hx:x.cells = #[x]:=by rcases h with rfl | ⟨a,rfl⟩<;>rfl
  rw[hx]at hy;cases i with
  |zero=>simp[V.cells]at hu hy;subst hu;subst hy;exact .dY h
  |succ j=>simp[V.cells]at hu
 |fG n a cap=>exact⟨rfl,fun i u y hu hy=>by cases i with|zero=>(simp[V.cells,Value.cells]at hu hy;subst hu;subst hy;exact .fG n a cap)|succ j=>simp[V.cells]at hu⟩
 |eF h =>
  rename_i n es;have hx:=h.cells;have hv:(V.eF n es).cells=[.eF n es]:=rfl;rw[hv,hx];refine⟨rfl,fun i u y hu hy=>?_⟩;cases i with
  |zero=>simp at hu hy;subst hu;subst hy;exact .eF h
  |succ j=>simp at hu
 |agg cs xs hl hx=>exact⟨by simpa [V.cells,Value.cells] using hl,fun i u y hu hy=>hx i u y hu (by simpa [Value.cells] using hy)⟩
 |tuple cs xs hl hx=>exact absurd (hu (.tuple cs) (by simp[V.cells])) (by simp[V.cL])
 |bJ id off=>exact⟨rfl,fun i u y hu hy=>by cases i with|zero=>(simp[V.cells,Value.cells]at hu hy;subst hu;subst hy;exact .bJ id off)|succ j=>simp[V.cells]at hu⟩
 |bR id off n cap h hc=>exact⟨rfl,fun i u y hu hy=>by cases i with|zero=>(simp[V.cells,Value.cells]at hu hy;subst hu;subst hy;exact .bR id off n cap h hc)|succ j=>simp[V.cells]at hu⟩
 |bm i off h=>exact⟨rfl,fun i u y hu hy=>by cases i with|zero=>(simp[V.cells,Value.cells]at hu hy;subst hu;subst hy;exact .bm _ off h)|succ j=>simp[V.cells]at hu⟩
 |fp id s off n cap h=>exact⟨rfl,fun i u y hu hy=>by cases i with|zero=>(simp[V.cells,Value.cells]at hu hy;subst hu;subst hy;exact .fp id s off n cap h)|succ j=>simp[V.cells]at hu⟩
 |c5 i s n cap h hl=>exact⟨rfl,fun i u y hu hy=>by cases i with|zero=>(simp[V.cells,Value.cells]at hu hy;subst hu;subst hy;exact .c5 _ s n cap h hl)|succ j=>simp[V.cells]at hu⟩
 |g9 i s off n cap h hl=>exact⟨rfl,fun i u y hu hy=>by cases i with|zero=>(simp[V.cells,Value.cells]at hu hy;subst hu;subst hy;exact .g9 _ s off n cap h hl)|succ j=>simp[V.cells]at hu⟩
 |qP id s h hc =>
  refine⟨by rcases h with rfl | ⟨a,rfl⟩<;>rfl,fun i u y hu hy=>?_⟩
  have hx:x.cells = #[x]:=by rcases h with rfl | ⟨a,rfl⟩<;>rfl
  rw[hx]at hy;cases i with
  |zero=>simp[V.cells]at hu hy;subst hu;subst hy;exact .qP id s h hc
  |succ j=>simp[V.cells]at hu
 |ui k s h hz =>
  refine⟨by rcases hz with rfl | ⟨a,rfl⟩<;>rfl,fun i u y hu hy=>?_⟩
  have hx:x.cells = #[x]:=by rcases hz with rfl | ⟨a,rfl⟩<;>rfl
  rw[hx]at hy;cases i with
  |zero=>simp[V.cells]at hu hy;subst hu;subst hy;exact .ui k s h hz
  |succ j=>simp[V.cells]at hu
 |gq=>exact⟨rfl,fun i u y hu hy=>by cases i with|zero=>(simp[V.cells,Value.cells]at hu hy;subst hu;subst hy;exact .gq)|succ j=>simp[V.cells]at hu⟩
 |eP row off b o ys hb hc hv hp hm=>exact⟨rfl,fun i u y hu hy=>by cases i with|zero=>(simp[V.cells,Value.cells]at hu hy;subst hu;subst hy;exact .eP row off b o ys hb hc hv hp hm)|succ j=>simp[V.cells]at hu⟩
 |fn f cap xs hl hx=>exact⟨rfl,fun i u y hu hy=>by cases i with|zero=>(simp[V.cells,Value.cells]at hu hy;subst hu;subst hy;exact .fn f cap xs hl hx)|succ j=>simp[V.cells]at hu⟩
 |gu=>exact⟨rfl,fun i u y hu hy=>by cases i with|zero=>(simp[V.cells,Value.cells]at hu hy;subst hu;subst hy;exact .gu)|succ j=>simp[V.cells]at hu⟩
 |map i h=>exact⟨rfl,fun i u y hu hy=>by cases i with|zero=>(simp[V.cells,Value.cells]at hu hy;subst hu;subst hy;exact .map _ h)|succ j=>simp[V.cells]at hu⟩
 |gw=>exact⟨rfl,fun i u y hu hy=>by cases i with|zero=>(simp[V.cells,Value.cells]at hu hy;subst hu;subst hy;exact .gw)|succ j=>simp[V.cells]at hu⟩
theorem OP{X:Cx}{v:V}{x:Value}(h:bb X v x):bb X v.jr x:=by
 cases h with
 |eF h=>exact .plain h (fun _ _ _ e=>by cases e)
 |dY h=>exact .dY h
 |fG n a cap=>exact .fG n a cap
 |plain h t=>cases h<;>exact .plain (by first|exact .int _ _|exact .bool _|exact .str _|exact .cb|exact .nil _ _|exact .empty _ _ _ _|(rename_i a b c d e f g i;exact .slice _ _ _ _ _ _ _ (by assumption) (by assumption) (by assumption) (by assumption) (by assumption) (by assumption) (by assumption))) t
 |undef=>exact .undef
 |bJ=>exact .bJ _ _
 |bR _ _ _ _ h hc=>exact .bR _ _ _ _ h hc
 |bm _ _ h=>exact .bm _ _ h
 |qP _ _ h hc=>exact .qP _ _ h hc
 |fp _ _ _ _ _ h=>exact .fp _ _ _ _ _ h
 |c5 _ _ _ _ h hl=>exact .c5 _ _ _ _ h hl
 |ui _ _ h hz=>exact .ui _ _ h hz
 |g9 _ _ _ _ _ h hl=>exact .g9 _ _ _ _ _ h hl
 |gq=>exact .gq
 |eP row off b o ys hb hc hv hp hm=>exact .eP row off b o ys hb hc hv hp hm
 |fn f cap xs hl hx=>exact .fn f cap xs hl hx
 |gu=>exact .gu
 |map _ h=>exact .map _ h
 |gw=>exact .gw
 |agg cs xs hl hx=>exact .agg cs xs hl hx
 |tuple cs xs hl hx=>exact .tuple cs xs hl hx
theorem Wh{X:Cx}{v:V}{x:Value}(h:bb X v x):bb X v.kQ x:=by
 have key:(∃cs,v=.agg cs)∨v.kQ=v.jr:=by
  cases v<;>first|(left;exact⟨_,rfl⟩)|(right;rfl)
 rcases key with⟨cs,rfl⟩ | e
 ·obtain⟨xs,e,hl,hx⟩:=qS h
  subst e;refine .agg _ _ (by simpa using hl) (fun i u y hu hy=>?_)
  rw[vN]at hu;cases hc:cs[i]? with
  |none=>simp[hc]at hu
  |some z =>
   simp[hc]at hu;subst hu;exact OP (hx i z y hc hy)
 ·rw[e];exact OP h
theorem ahG{X:Cx}{r:jC}{v:V}{x:Value}(h:bb X v x):bb X (tm r v) x:=by
 cases r
 ·exact h
 ·exact Wh h
 ·exact h
def ch(P:Program)(E:Entry)(o:Oper)(S:St)(S':St)(a:Act)(w:World):Prop :=
 ∀(K:Act→World→Prop) (Q:Exit→Act→World→Prop),(∀g' a' w',R E g' S' a' w'→K a' w')→o.wp P a w K Q
theorem ch.value{o:Oper}{S S':St}{x:Value}{g':Gh}{w':World}(hrun:(execOp a.eval o).run P w=.ok (.value x) w')(hR:R E g' S' (a.put o.dst x) w') :
  ch P E o S S' a w:=fun K Q hK=>by
 unfold Oper.wp;rw[hrun,Oper.upon_value];exact hK _ _ _ hR
theorem ch.skip{o:Oper}{S S':St}{g':Gh}{w':World}(hrun:(execOp a.eval o).run P w=.ok .skip w')(hd:o.dst=none)(hR:R E g' S' a w') :
  ch P E o S S' a w:=fun K Q hK=>by
 unfold Oper.wp;rw[hrun,Oper.upon_skip,hd];exact hK _ _ _ hR
theorem ch.put{o:Oper}{v:V}{x:Value}(hR:R E g S a w)(hd:∀d,o.dst=some d→d<E.nt)
  (hrun:(execOp a.eval o).run P w=.ok (.value x) w) (hx:bb (S.cx g w) v x):ch P E o S (S.put o.dst v) a w :=
 .value hrun (hR.put hd hx)
theorem Wi{o:Oper}{y:Operand}{x:bw}{S':St}{C:bD}(ho:o.op=.move y∨o.op=.assign y)(hx:bU y x=true)(hR:R E g S a w)
  (hd:∀d,o.dst=some d→d<E.nt) (hrun:VO.run C o.dst S (.mv x)=some S'):ch P E o S S' a w:=by
 simp only[VO.run]at hrun;split at hrun
 ·rename_i v hv
  cases hrun;refine ch.put hR hd (x:=a.eval y) ?_ (cY hR hx hv);rcases ho with ho|ho<;>simp[execOp,ho]
 ·cases hrun
theorem ahH{o:Oper}{c p q:Operand}{c' p' q':bw}{S':St}{C:bD}(ho:o.op=.pick c p q)(hc:bU c c'=true)(hp:bU p p'=true)(hq:bU q q'=true)
  (hR:R E g S a w) (hd:∀d,o.dst=some d→d<E.nt) (hrun:VO.run C o.dst S (.pick c' p' q')=some S'):ch P E o S S' a w:=by
 simp only[VO.run]at hrun;split at hrun
 ·rename_i t ht
  split at hrun
  ·rename_i v hv
   cases hrun;have h1:=A9 (cY hR hc ht);refine ch.put hR hd (x:=if t then a.eval p else a.eval q) ?_ ?_
   ·simp[execOp,ho,h1,asBool]
   ·cases t
    ·exact cY hR hq hv
    ·exact cY hR hp hv
  ·cases hrun
 ·cases hrun
theorem ahI(op:BinOp)(t:TypeId)(x y:Operand)(k k':IntKind)(m n:Int):(eqGuard op t x y (.int k m) (.int k' n)).run P w=.ok () w:=by
 unfold eqGuard;split<;>simp
theorem ahJ(op:BinOp)(t:TypeId)(x y:Operand)(m n:Bool):(eqGuard op t x y (.bool m) (.bool n)).run P w=.ok () w:=by
 unfold eqGuard;split<;>simp
theorem ji{t:TypeId}{d:TypeDesc}(h:P.underlying t=some d):(underlying t).run P w=.ok d w:=by
 unfold underlying;simp[h]
omit E g S a in
theorem ahK{op:BinOp}{t:TypeId}{k:IntKind}{m n:Int}{v:V}(h:Ha op k m n=some v) :
  ∃x,(binOp op t (.int k m) (.int k n)).run P w=.ok x w∧∀X:Cx,bb X v x:=by
 unfold Ha at h;split at h
 all_goals (try (cases h;done))
 all_goals (try (split at h;· cases h))
 all_goals (cases h)
 all_goals first
  |(refine⟨_,?_,fun X=>bb.int _ _⟩;simp[binOp,Op.intArith];done)
  |(refine⟨_,?_,fun X=>bb.int _ _⟩;simp[binOp,Op.intDiv, *];done)
  |(refine⟨_,?_,fun X=>bb.int _ _⟩;simp[binOp,Op.shift, *];done)
  |(refine⟨_,?_,fun X=>bb.bool _⟩;simp[binOp,Op.intCmp];done)
theorem ahL{o:Oper}{op:BinOp}{t t':TypeId}{p q:Operand}{x y:bw}{S':St}{C:bD}(ho:o.op=.binOp op t p q t')(hp:bU p x=true)(hq:bU q y=true)
  (hR:R E g S a w) (hd:∀d,o.dst=some d→d<E.nt) {k:IntKind} {m:Int} {k':IntKind} {n:Int} (h1:S.ev x=some (.int k m)) (h2:S.ev y=some (.int k' n))
  (hrun:VO.run C o.dst S (.bin op x y)=some S'):ch P E o S S' a w:=by
 simp only[VO.run,h1,h2,V.bin]at hrun;by_cases hk:k=k'
 ·subst hk
  simp only[decide_true,bG]at hrun;split at hrun
  ·rename_i v hv
   cases hrun;have e1:=mI (cY hR hp h1);have e2:=mI (cY hR hq h2);obtain⟨z,hz,hx⟩:=ahK (P:=P) (w:=w) (t:=t) hv;refine ch.put hR hd (x:=z) ?_ (hx _);simp[execOp,ho,e1,e2,ahI,hz]
  ·cases hrun
 ·simp[hk]at hrun
theorem ahM{t:TypeId}(ht:P.underlying t=some .bool)(m n:Bool):(Op.equal t (.bool m) (.bool n)).run P w=.ok (m==n) w:=by
 unfold Op.equal;rw[show Op.maxDepth=9999+1 from rfl,Op.equalIn];simp[ji ht]
theorem ahN{o:Oper}{neg:Bool}{t t':TypeId}{p q:Operand}{x y:bw}{S':St}{C:bD}(ho:o.op=.binOp (if neg then .neq else .eql) t p q t')(ht:P.underlying t=some .bool)(hp:bU p x=true)(hq:bU q y=true)
  (hR:R E g S a w) (hd:∀d,o.dst=some d→d<E.nt) (hrun:VO.run C o.dst S (.beq neg x y)=some S'):ch P E o S S' a w:=by
 simp only[VO.run]at hrun;split at hrun
 ·rename_i m n h1 h2
  cases hrun;have e1:=A9 (cY hR hp h1);have e2:=A9 (cY hR hq h2);refine ch.put hR hd (x:=.bool (bif neg then m != n else m==n)) ?_ (bb.bool _);cases neg<;>simp[execOp,ho,e1,e2,ahJ,binOp,ahM ht];cases m<;>cases n<;>rfl
 ·cases hrun
theorem ahO{o:Oper}{op:BinOp}{t t':TypeId}{p q:Operand}{x y:bw}{S':St}{C:bD}(ho:o.op=.binOp op t p q t')(hp:bU p x=true)(hq:bU q y=true)
  (hR:R E g S a w) (hd:∀d,o.dst=some d→d<E.nt) (hrun:VO.run C o.dst S (.bin op x y)=some S'):ch P E o S S' a w:=by
 have CG:=hrun;simp only[VO.run]at hrun;split at hrun
 ·rename_i u v h1 h2
  split at hrun
  ·rename_i z hz
   unfold V.bin at hz;split at hz
   ·exact ahL ho hp hq hR hd h1 h2 CG
   ·cases hz
  ·cases hrun
 ·cases hrun
theorem ahP{o:Oper}{op:UnOp}{t:TypeId}{p:Operand}{x:bw}{S':St}{C:bD}(ho:o.op=.unOp op t p)(hp:bU p x=true)
  (hR:R E g S a w) (hd:∀d,o.dst=some d→d<E.nt) (hrun:VO.run C o.dst S (.un op x)=some S'):ch P E o S S' a w:=by
 simp only[VO.run]at hrun;split at hrun
 ·rename_i u hu
  have hr:=cY hR hp hu;split at hrun
  ·rename_i v hv
   cases hrun;unfold V.un at hv;split at hv
   ·have e:=A9 hr
    split at hv<;>cases hv;refine ch.put hR hd (x:=_) ?_ (bb.bool _);simp[execOp,ho,e,Op.unary]
    try rfl
   ·have e:=mI hr
    split at hv<;>cases hv;refine ch.put hR hd (x:=_) ?_ (bb.int _ _);simp[execOp,ho,e,Op.unary,Op.intArith]
    try rfl
   ·cases hv
  ·cases hrun
 ·cases hrun
theorem ahQ{o:Oper}{s t:TypeId}{k:IntKind}{d:TypeDesc}{p:Operand}{x:bw}{S':St}{C:bD}(ho:o.op=.convert s t p)(hs:P.underlying s=some d)(ht:P.underlying t=some (.int k))(hp:bU p x=true)
  (hR:R E g S a w) (hd:∀d,o.dst=some d→d<E.nt) (hrun:VO.run C o.dst S (.conv k x)=some S'):ch P E o S S' a w:=by
 simp only[VO.run]at hrun;split at hrun
 ·rename_i j n hn
  cases hrun;have e:=mI (cY hR hp hn);refine ch.put hR hd (x:=_) ?_ (bb.int _ _);simp[execOp,ho,e,convert,ji hs,ji ht,Conv.intToInt]
  try rfl
 ·cases hrun
theorem ahR{o:Oper}{p:Operand}{x:bw}{S':St}{C:bD}(ho:o.op=.nilCheck p)(hp:bU p x=true)
  (hR:R E g S a w) (hd:∀d,o.dst=some d→d<E.nt) (hrun:VO.run C o.dst S (.uf x)=some S'):ch P E o S S' a w:=by
 simp only[VO.run]at hrun;split at hrun
 ·rename_i i f hv
  cases hrun;have hr:=cY hR hp hv;have e:=Ba hr;refine ch.put hR hd (x:=_) ?_ hr;simp[execOp,ho,e]
 ·rename_i i f hv
  cases hrun;have hr:=cY hR hp hv;obtain⟨e,_⟩:=Bb hr;refine ch.put hR hd (x:=_) ?_ hr;simp[execOp,ho,e]
 ·rename_i r f hv
  cases hrun;have hr:=cY hR hp hv;obtain⟨b,o',e⟩:∃b o',a.eval p=.pointer (some ⟨b,o',none⟩):=by
   generalize a.eval p=z at hr;cases hr with
   |plain h _=>cases h
   |eP _ _ b o'=>exact⟨b,_,rfl⟩
  refine ch.put hR hd (x:=_) ?_ hr;simp[execOp,ho,e]
 ·cases hrun
theorem Wj{X:Cx}{v:V}{x:Value}(h:bb X v x)(n:Nat) :
  (∀i o,v=.bJ i o→∃b f,x=.pointer (some ⟨b,f,none⟩)∧bb X (.bJ i (o+n)) (.pointer (some ⟨b,f+n,none⟩))) ∧
  (∀i o,v=.bm i o→∃b f,x=.pointer (some ⟨b,f,none⟩)∧bb X (.bm i (o+n)) (.pointer (some ⟨b,f+n,none⟩))) ∧
  (∀r o,v=.eP r o→∃b f,x=.pointer (some ⟨b,f,none⟩)∧bb X (.eP r (o+n)) (.pointer (some ⟨b,f+n,none⟩))):=by
 refine⟨fun i o e=>?_,fun i o e=>?_,fun r o e=>?_⟩
 ·subst e;rw[Ba h];exact⟨_,_,rfl,.bJ _ _⟩
 ·subst e;obtain⟨e,hi⟩:=Bb h;rw[e];exact⟨_,_,rfl,.bm _ _ hi⟩
 ·subst e
  cases h with
  |plain h _=>cases h
  |eP _ _ b o' ys hb hc hv hp hm=>exact⟨_,_,rfl,by rw[Cr];exact .eP r (o+n) b o' ys hb hc hv hp hm⟩
theorem kB(b f n:Nat):(⟨b,f,none⟩:Addr).add n=⟨b,f+n,none⟩:=by
 unfold Addr.add;split
 ·simp[*]
 ·rfl
theorem oW{t:TypeId}{n:Nat}(h:(P.info? t).map (·.size)=some n):(sizeOf t).run P w=.ok n w:=by
 cases hi:P.info? t with
 |none=>simp[hi]at h
 |some i=>simp[hi]at h;simp[sizeOf,typeInfo,hi,h]
theorem ahS{o:Oper}{s:TypeId}{fi off:Nat}{fs:Array Field}{f:Field}{n:Nat}{p:Operand}{x:bw}{S':St}{C:bD}(ho:o.op=.fieldAddr s p fi)(hs:P.underlying s=some (.struct fs))
  (hf:fs[fi]?=some f) (hn:(P.info? f.type).map (·.size)=some n) (h0:n≠0) (jt:f.offset=off) (hp:bU p x=true)
  (hR:R E g S a w) (hd:∀d,o.dst=some d→d<E.nt) (hrun:VO.run C o.dst S (.ti off x)=some S'):ch P E o S S' a w:=by
 simp only[VO.run]at hrun;split at hrun
 all_goals first|(cases hrun;done)|skip
 all_goals
  rename_i hv;cases hrun;obtain⟨m1,m2,m3⟩:=Wj (cY hR hp hv) off
 ·obtain⟨b,q,e,hr⟩:=m1 _ _ rfl
  refine ch.put hR hd (x:=_) ?_ hr;simp[execOp,ho,e,Instr.fieldAt,ji hs,hf,Instr.sureAddr,fieldPlace,oW hn,h0,jt,kB]
 ·obtain⟨b,q,e,hr⟩:=m2 _ _ rfl
  refine ch.put hR hd (x:=_) ?_ hr;simp[execOp,ho,e,Instr.fieldAt,ji hs,hf,Instr.sureAddr,fieldPlace,oW hn,h0,jt,kB]
 ·obtain⟨b,q,e,hr⟩:=m3 _ _ rfl
  refine ch.put hR hd (x:=_) ?_ hr;simp[execOp,ho,e,Instr.fieldAt,ji hs,hf,Instr.sureAddr,fieldPlace,oW hn,h0,jt,kB]
theorem ahT{o:Oper}{t:TypeId}{len:Nat}{el:TypeId}{sz:Nat}{p q:Operand}{x i:bw}{S':St}{C:bD}(ho:o.op=.indexAddr t p q)(ht:P.underlying t=some (.array len el))
  (hn:(P.info? el).map (·.size)=some sz) (hR:R E g S a w) (hp:∀v,S.ev x=some v→bb (S.cx g w) v (a.eval p)) (hq:bU q i=true)
  (hd:∀d,o.dst=some d→d<E.nt) (hrun:VO.run C o.dst S (.ov (some len) sz x i)=some S'):ch P E o S S' a w:=by
 simp only[VO.run]at hrun;split at hrun
 ·rename_i u k m hu hm
  have e2:=mI (cY hR hq hm);cases hc:(decide (0≤m)&&decide (m<(len:Int))) with
  |false=>simp[hc]at hrun
  |true =>
   simp only[hc,bG]at hrun;simp only[bS,iD]at hc;have hr:=hp _ hu;obtain⟨m1,m2,m3⟩:=Wj hr (m.toNat*sz);split at hrun<;>first|(cases hrun;done)|skip
   all_goals cases hrun
   ·obtain⟨b,f,e,hx⟩:=m1 _ _ rfl
    refine ch.put hR hd (x:=_) ?_ hx;simp[execOp,ho,e,e2,Instr.indexAt,asIntOf,ji ht,Instr.sureAddr,oW hn,hc,kB]
   ·obtain⟨b,f,e,hx⟩:=m2 _ _ rfl
    refine ch.put hR hd (x:=_) ?_ hx;simp[execOp,ho,e,e2,Instr.indexAt,asIntOf,ji ht,Instr.sureAddr,oW hn,hc,kB]
   ·obtain⟨b,f,e,hx⟩:=m3 _ _ rfl
    refine ch.put hR hd (x:=_) ?_ hx;simp[execOp,ho,e,e2,Instr.indexAt,asIntOf,ji ht,Instr.sureAddr,oW hn,hc,kB]
 ·cases hrun
theorem eQ{α:Type}{l:List α}{i:Nat}{x:α}(h:l[i]?=some x):i<l.length:=by
 rcases cF i l.length with h' | h'
 ·exact h'
 ·simp[jT h']at h
theorem ahU{o:Oper}{t:TypeId}{el:TypeId}{sz:Nat}{p q:Operand}{x i:bw}{S':St}{C:bD}(ho:o.op=.indexAddr t p q)(ht:P.underlying t=some (.slice el))
  (hn:(P.info? el).map (·.size)=some sz) (hp:bU p x=true) (hq:bU q i=true)
  (hR:R E g S a w) (hd:∀d,o.dst=some d→d<E.nt) (hrun:VO.run C o.dst S (.ov none sz x i)=some S'):ch P E o S S' a w:=by
 simp only[VO.run]at hrun;split at hrun
 ·rename_i tk m es k z hu hm
  have e2:=mI (cY hR hq hm);cases hc:(decide (0≤z)&&(m==sz)) with
  |false=>simp[hc]at hrun
  |true =>
   simp only[hc,bG]at hrun;simp only[bS,iD,dO]at hc;obtain⟨hz,rfl⟩:=hc;split at hrun
   ·rename_i row iH
    cases hrun;have bE:=eQ iH;have hr:=cY hR hp hu;obtain⟨b,off,cap,ys,e,hb,eo,h1,h2,h3,h3p,h4⟩:∃(b off cap:Nat) (ys:Nat→Nat→Value),a.eval p=.slice (some ⟨b,off,none⟩) es.length cap∧b<w.heap.size∧es.length≤cap ∧
      (∀(i:Nat) (row:List V),es[i]?=some row→row.length=m) ∧
      (∀(i:Nat) (row:List V) (j:Nat) (v:V),es[i]?=some row→row[j]?=some v→cellAt w.heap b (off+i*m+j)=some (ys i j)) ∧
      (∀(i:Nat) (row:List V) (j:Nat) (v:V),es[i]?=some row→row[j]?=some v→fg w.heap g.m v (ys i j)) ∧
      (∀(i:Nat) (row:List V) (j:Nat) (v:V),es[i]?=some row→row[j]?=some v→v.plain=true)∧off+es.length*m≤g.m b:=by
     generalize a.eval p=y at hr;cases hr with
     |plain h _ =>
      cases h with
      |nil=>simp at bE
      |empty=>simp at bE
      |slice _ _ _ b off cap ys hb eo iH hc hv hp hm=>exact⟨b,off,cap,ys,rfl,hb,eo,iH,hc,hv,hp,hm⟩
    refine ch.put hR hd (x:=.pointer (some ⟨b,off+z.toNat*m,none⟩)) ?_ ?_
    ·have CH:z<(es.length:Int):=by omega
     simp[execOp,ho,e,e2,Instr.indexAt,asIntOf,ji ht,oW hn,hz,CH,kB]
    ·refine .eP row 0 b (off+z.toNat*m) (ys z.toNat) hb (fun j v hj=>h2 _ row j v iH hj) (fun j v hj=>h3 _ row j v iH hj) (fun j v hj=>h3p _ row j v iH hj) ?_
     have:=h1 _ row iH;have h5:z.toNat*m+m≤es.length*m:=by
      have:=tf m bE;rw[oS]at this;exact this
     show off+z.toNat*m+row.length≤g.m b;omega
   ·cases hrun
 ·rename_i id off len k z hu hm
  have e2:=mI (cY hR hq hm);cases hc:(decide (0≤z)&&decide (z<(len:Int))&&(off==sz)) with
  |false=>simp[hc]at hrun
  |true =>
   simp only[hc,bG]at hrun;simp only[bS,iD]at hc;cases hrun;have hr:=cY hR hp hu;rcases qR hr with⟨cap,eo,_,hy⟩ | ⟨h0,_⟩
   ·refine ch.put hR hd (x:=.pointer (some ⟨g.κ id,z.toNat*sz,none⟩)) ?_ (.bJ _ _)
    simp[execOp,ho,hy,e2,Instr.indexAt,asIntOf,ji ht,oW hn,hc.1,kB];rfl
   ·omega
 ·rename_i id off len k z hu hm
  have e2:=mI (cY hR hq hm);cases hc:(decide (0≤z)&&decide (z<(len:Int))&&(off==sz)) with
  |false=>simp[hc]at hrun
  |true =>
   simp only[hc,bG]at hrun;simp only[bS,iD]at hc;cases hrun;have hr:=cY hR hp hu;obtain⟨hi,⟨cap,eo,hy⟩ | ⟨h0,_⟩⟩:=Et hr
   ·refine ch.put hR hd (x:=.pointer (some ⟨g.γ id,z.toNat*sz,none⟩)) ?_ (.bm _ _ hi)
    simp[execOp,ho,hy,e2,Instr.indexAt,asIntOf,ji ht,oW hn,hc.1,kB];rfl
   ·omega
 ·cases hrun
theorem ahV{o:Oper}{t e:TypeId}{ts:Array TypeId}{p:Operand}{x:bw}{S':St}{C:bD}(ho:o.op=.call ⟨.builtin .len,#[p],ts⟩)(yk:ts[0]?=some t)
  (ht:P.underlying t=some (.slice e)) (hp:bU p x=true)
  (hR:R E g S a w) (hd:∀d,o.dst=some d→d<E.nt) (hrun:VO.run C o.dst S (.len x)=some S'):ch P E o S S' a w:=by
 have go:∀(v:V) (n:Nat),S.ev x=some v→(∃q cap,a.eval p=.slice q n cap)→ch P E o S (S.put o.dst (.int .i64 n)) a w:=by
  intro v n hv ⟨q,cap,e⟩;refine ch.put hR hd (x:=.int .i64 n) ?_ (bb.int _ _);simp[execOp,ho,resolve,invoke,builtin,Builtin.len_,yk,e,ji ht,goInt]
 simp only[VO.run]at hrun;split at hrun
 ·rename_i hv
  cases hrun;exact go _ 0 hv ⟨none,0,oV (cY hR hp hv)⟩
 ·rename_i n hv
  cases hrun;refine go _ 0 hv ?_;rcases uk (cY hR hp hv) with e | ⟨a,e⟩
  ·exact⟨_,_,e⟩
  ·exact⟨_,_,e⟩
 ·rename_i n hv
  cases hrun;refine go _ 0 hv ?_;obtain⟨a,cap,e⟩:=He (cY hR hp hv);exact⟨_,_,e⟩
 ·rename_i tk n es hv
  cases hrun;have hr:=cY hR hp hv;refine go _ _ hv ?_;generalize a.eval p=y at hr;cases hr with
  |plain h _=>cases h with
   |nil=>exact⟨none,0,rfl⟩
   |empty _ _ a cap=>exact⟨some a,cap,rfl⟩
   |slice=>exact⟨_,_,rfl⟩
 ·rename_i i f n hv
  cases hrun;have hr:=cY hR hp hv;refine go _ _ hv ?_;rcases qR hr with⟨cap,_,_,hy⟩ | ⟨h0,hy | ⟨a,hy⟩,_⟩
  ·exact⟨_,_,hy⟩
  ·subst h0;exact⟨_,_,hy⟩
  ·subst h0;exact⟨_,_,hy⟩
 ·rename_i i f n hv
  cases hrun;have hr:=cY hR hp hv;refine go _ _ hv ?_;obtain⟨_,⟨cap,_,hy⟩ | ⟨h0,hy | ⟨a,hy⟩⟩⟩:=Et hr
  ·exact⟨_,_,hy⟩
  ·subst h0;exact⟨_,_,hy⟩
  ·subst h0;exact⟨_,_,hy⟩
 ·cases hrun
theorem ahW{o:Oper}{t e:TypeId}{ts:Array TypeId}{p:Operand}{x:bw}{S':St}{C:bD}(ho:o.op=.call ⟨.builtin .cap,#[p],ts⟩)(yk:ts[0]?=some t)
  (ht:P.underlying t=some (.slice e)) (hp:bU p x=true)
  (hR:R E g S a w) (hd:∀d,o.dst=some d→d<E.nt) (hrun:VO.run C o.dst S (.wK x)=some S'):ch P E o S S' a w:=by
 simp only[VO.run]at hrun;split at hrun
 ·rename_i hv
  cases hrun;have e:=oV (cY hR hp hv);refine ch.put hR hd (x:=.int .i64 0) ?_ (bb.int _ _);simp[execOp,ho,resolve,invoke,builtin,Builtin.cap_,yk,e,ji ht,goInt]
 ·cases hrun
theorem ahX{o:Oper}{t:TypeId}{ts:Array TypeId}{p:Operand}{x:bw}{S':St}{C:bD}(ho:o.op=.call ⟨.builtin .len,#[p],ts⟩)(yk:ts[0]?=some t)
  (ht:P.underlying t=some .string) (hp:bU p x=true)
  (hR:R E g S a w) (hd:∀d,o.dst=some d→d<E.nt) (hrun:VO.run C o.dst S (.vj x)=some S'):ch P E o S S' a w:=by
 simp only[VO.run]at hrun;split at hrun
 ·rename_i l hv
  cases hrun;obtain⟨s,e,hs⟩:=ahC (cY hR hp hv);refine ch.put hR hd (x:=.int .i64 l.length) ?_ (bb.int _ _);have:s.size=l.length:=by rw[←hs];simp
  simp[execOp,ho,resolve,invoke,builtin,Builtin.len_,yk,e,ji ht,goInt,this]
 ·cases hrun
theorem ahY{o:Oper}{k:Nat}{p:Operand}{x:bw}{S':St}{C:bD}(ho:o.op=.extract p k)(hp:bU p x=true)
  (hR:R E g S a w) (hd:∀d,o.dst=some d→d<E.nt) (hrun:VO.run C o.dst S (.ext x k)=some S'):ch P E o S S' a w:=by
 simp only[VO.run]at hrun;split at hrun
 ·rename_i vs hv
  split at hrun
  ·rename_i v hk
   cases hrun;obtain⟨xs,e,hl,hx⟩:=ahF (cY hR hp hv);have bE:k<xs.size:=by rw[←hl];exact eQ hk
   refine ch.put hR hd (x:=xs[k]) ?_ (hx k v xs[k] hk (by simp[bE]))
   simp[execOp,ho,e,Instr.extract,bE]
  ·cases hrun
 ·cases hrun
theorem ahZ{o:Oper}{mx:Bool}{ts:Array TypeId}{p q:Operand}{x y:bw}{S':St}{C:bD}(ho:o.op=.call ⟨.builtin (if mx then .max else .min),#[p,q],ts⟩)(hp:bU p x=true)(hq:bU q y=true)
  (hR:R E g S a w) (hd:∀d,o.dst=some d→d<E.nt) (hrun:VO.run C o.dst S (.mm mx x y)=some S'):ch P E o S S' a w:=by
 simp only[VO.run]at hrun;split at hrun
 ·rename_i k m k' n hm hn
  cases hrun;have e1:=mI (cY hR hp hm);have e2:=mI (cY hR hq hn);refine ch.put hR hd (x:=_) ?_ (bb.int _ _);cases mx
  ·simp[execOp,ho,e1,e2,resolve,invoke,builtin,Builtin.min_,Builtin.min2]
   rw[Int.min_def];split<;>split<;>omega
  ·simp[execOp,ho,e1,e2,resolve,invoke,builtin,Builtin.max_,Builtin.max2]
   rw[Int.max_def];split<;>split<;>omega
 ·cases hrun
theorem ah0{o:Oper}{mx:Bool}{ts:Array TypeId}{p q r:Operand}{x y z:bw}{S':St}{C:bD}(ho:o.op=.call ⟨.builtin (if mx then .max else .min),#[p,q,r],ts⟩)(hp:bU p x=true)(hq:bU q y=true)(hz:bU r z=true)
  (hR:R E g S a w) (hd:∀d,o.dst=some d→d<E.nt) (hrun:VO.run C o.dst S (.vl mx x y z)=some S'):ch P E o S S' a w:=by
 simp only[VO.run]at hrun;split at hrun
 ·rename_i k m k' n k'' l hm hn hl
  cases hrun;have e1:=mI (cY hR hp hm);have e2:=mI (cY hR hq hn);have e3:=mI (cY hR hz hl);refine ch.put hR hd (x:=_) ?_ (bb.int _ _);cases mx
  ·simp[execOp,ho,e1,e2,e3,resolve,invoke,builtin,Builtin.min_,Builtin.min2]
   simp only[Int.min_def];repeat' split
   all_goals omega
  ·simp[execOp,ho,e1,e2,e3,resolve,invoke,builtin,Builtin.max_,Builtin.max2]
   simp only[Int.max_def];repeat' split
   all_goals omega
 ·cases hrun
theorem ah1{o:Oper}{f:FuncId}{zC:Array Operand}{cap:List bw}{S':St}{C:bD}(ho:o.op=.makeFunc (.func (jq f)) #[] zC)(hc:cap.length=zC.size∧∀(i:Nat) x y,cap[i]?=some x→zC[i]?=some y→bU y x=true)
  (hR:R E g S a w) (hd:∀d,o.dst=some d→d<E.nt) (hrun:VO.run C o.dst S (.wO f cap)=some S'):ch P E o S S' a w:=by
 have ah2:∀{xs:List bw} {vs:List V},pL S xs=some vs→vs.length=xs.length∧∀(i:Nat) (v:V),vs[i]?=some v→∃x,xs[i]?=some x∧S.ev x=some v:=by
  intro xs;induction xs with
  |nil=>intro vs h;simp[pL]at h;subst h;simp
  |cons x xs ih =>
   intro vs h;simp only[pL]at h;split at h
   ·rename_i v Ev h1 h2
    cases h;obtain⟨p,q⟩:=ih h2;refine⟨by simp[p],fun i u hu=>?_⟩
    cases i with
    |zero=>simp at hu;subst hu;exact⟨x,by simp,h1⟩
    |succ i=>obtain⟨z,hz,he⟩:=q i u (by simpa using hu);exact⟨z,by simpa using hz,he⟩
   ·cases h
 have ah3:∀{vs us:List V},CA vs=some us→us=vs∧∀v∈vs,∃i o,v=.bm i o:=by
  intro vs;induction vs with
  |nil=>intro us h;simp[CA]at h;subst h;simp
  |cons v vs ih =>
   intro us h;unfold CA at h;split at h
   ·rename_i heq;cases heq
   ·rename_i i o Ev heq
    cases heq;split at h
    ·rename_i nP hu
     cases h;obtain⟨p,q⟩:=ih hu;subst p;exact⟨rfl,fun z hz=>by
      rcases jB.1 hz with e|e
      ·exact⟨_,_,e⟩
      ·exact q z e⟩
    ·cases h
   ·cases h
 simp only[VO.run]at hrun;split at hrun
 ·rename_i vs qU
  split at hrun
  ·rename_i us oX
   cases hrun;obtain⟨l1,g1⟩:=ah2 qU;obtain⟨rfl,g2⟩:=ah3 oX;refine ch.put hR hd (x:=.func (.func (jq f)) #[] (zC.map a.eval)) ?_ (.fn f us _ (by simp;omega) (fun j v hj=>?_))
   ·simp[execOp,ho,Instr.makeFunc]
   ·obtain⟨i,o',e⟩:=g2 v (fW hj)
    obtain⟨x,hx,zD⟩:=g1 j v hj;have bE:j<zC.size:=by have:=eQ hx;omega
    have hr:=cY hR (hc.2 j x zC[j] hx (by simp[bE])) zD
    subst e;obtain⟨e2,hi⟩:=Bb hr;exact⟨i,o',rfl,hi,by simp[bE,e2]⟩
  ·cases hrun
 ·cases hrun
end
end Go.Vm
