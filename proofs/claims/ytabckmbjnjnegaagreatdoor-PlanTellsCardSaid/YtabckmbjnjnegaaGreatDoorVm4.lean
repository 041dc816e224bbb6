/- - -/
import Derived.Test.YtabckmbjnjnegaaGreatDoorVm3
namespace Go.Vm
set_option linter.all false
def Nt:Value->V->Bool
 |.int k n,.int k' n'=>decide (k=k')&&n==n'
 |.bool b,.bool c=>b==c
 |.string s,.str l=>s.data.toList==l
 |.slice none 0 0,.cj=>true
 |.pointer none,.ig=>true
 |.nilFunc,.ij=>true
 |.map none,.ik=>true
 |_,_=>false
def xE:List Value->List V->Bool
 |[],[]=>true
 |x::xs,v::vs=>Nt x v&&xE xs vs
 |_,_=>false
def Nu:Value->V->Bool
 |.agg xs,.agg cs=>xE xs.toList cs
 |x,v=>Nt x v
variable{x:Value}
def ZK{X:Cx}{v:V}(h:Nt x v=true):bh X v x/\v.c5=true/\∀d,v.cI d=false:=by
 unfold Nt at h;split at h
 .simp at h;obtain⟨rfl,rfl⟩:=h
  exact⟨.plain (.int _ _) (λ_ _ _ e=>by cases e),rfl,λ_=>rfl⟩
 .simp at h;subst h
  exact⟨.plain (.bool _) (λ_ _ _ e=>by cases e),rfl,λ_=>rfl⟩
 .simp at h;subst h
  exact⟨.plain (.str _) (λ_ _ _ e=>by cases e),rfl,λ_=>rfl⟩
 .exact⟨.plain .cj (λ_ _ _ e=>by cases e),rfl,λ_=>rfl⟩
 .exact⟨.ig,rfl,λ_=>rfl⟩
 .exact⟨.ij,rfl,λ_=>rfl⟩
 .exact⟨.ik,rfl,λ_=>rfl⟩
 .cases h
def GL{X:Cx}:∀{xs:List Value} {vs:List V},xE xs vs=true->vs.length=xs.length /\
  (∀(i:Nat) (v:V) (x:Value),vs[i]?=some v->xs[i]?=some x->v.c5=true/\(∀d,v.cI d=false)/\bh X v x)
 |[],[],_=>⟨rfl,by simp⟩
 |[],_::_,h=>by simp[xE]at h
 |_::_,[],h=>by simp[xE]at h
 |x::xs,v::vs,h=>by
  simp only[xE,bZ]at h;obtain⟨h1,h2⟩:=h;obtain⟨hl,hr⟩:=GL (X:=X) h2;refine⟨by simp[hl],λi u y hu hy=>?_⟩
  cases i with
  |zero =>
   simp at hu hy;subst hu;subst hy;obtain⟨a,b,c⟩:=ZK (X:=X) h1;exact⟨b,c,a⟩
  |succ j=>exact hr j u y (by simpa using hu) (by simpa using hy)
def ZL{X:Cx}{v:V}(h:Nu x v=true):bh X v x:=by
 unfold Nu at h;split at h
 .obtain⟨hl,hr⟩:=GL (X:=X) h
  exact .agg _ _ (by simpa using hl) (λi v x hv hx=>(hr i v x hv (by simpa using hx)).2.2)
 .exact(ZK h).1
def cc:Operand->bG->Bool
 |.tmp t,.t s=>t==s
 |.const v,.c u=>Nu v u
 |.func f,.c (.fn g [])=>f==kb g
 |_,_=>false
section
variable {P:Program} {E:Entry} {g:Gh} {S:St} {a:Act} {w:World}
variable{v:V}
def di(hR:R E g S a w){y:Operand}{x:bG}(ho:cc y x=true)(hv:S.ev x=some v):bh (S.cx g w) v (a.eval y):=by
 unfold cc at ho;split at ho
 .simp at ho;subst ho
  obtain⟨z,hz,hr⟩:=hR.env _ v hv;simp only[Act.eval];simpa [hz] using hr
 .simp only[St.ev,Option.some.injEq]at hv;subst hv
  exact ZL ho
 .simp at ho;subst ho
  simp only[St.ev,Option.some.injEq]at hv;subst hv;exact .fn _ [] #[] rfl (by simp)
 .cases ho
def V.ZM:V->V->Bool
 |.int k n,.int l m=>decide (k=l)&&decide (n=m)
 |.bool a,.bool b=>a==b
 |.str a,.str b=>a==b
 |.fn f [],.fn g []=>f==g
 |_,_=>false
def Nv:List V->List V->Bool
 |[],[]=>true
 |v::l,u::m=>v.ZM u&&Nv l m
 |_,_=>false
def ZN:∀{l m:List V},Nv l m=true->l=m
 |[],[],_=>rfl
 |v::l,u::m,h=>by
  simp only[Nv,bZ]at h;rw[ZN h.2];have h1:=h.1;unfold V.ZM at h1;split at h1<;>simp_all
 |[],_::_,h=>by cases h
 |_::_,[],h=>by cases h
def Sb(T:Pk):Operand->bG->Bool
 |.global k,.c (.ff row 0)=>T.any λp=>p.1==k&&Nv p.2 row
 |_,_=>false
def al5{T:Pk}(hT:∀p∈T,p∈E.T)(hR:R E g S a w){y:Operand}{x:bG}(ho:Sb T y x=true)(hv:S.ev x=some v):bh (S.cx g w) v (a.eval y):=by
 unfold Sb at ho;split at ho
 next k row=>
  simp only[Jh,bZ,ec]at ho;obtain⟨⟨k',row'⟩,h1,rfl,h2⟩:=ho;obtain rfl:=ZN h2;simp only[St.ev,Option.some.injEq]at hv;subst hv;obtain⟨h3,h4,h5⟩:=hR.pk k' row' (hT _ h1);simp only[Act.eval];have h6:∀j,∃y,∀v,row'[j]?=some v->v.plain=true/\cellAt w.heap k' j=some y/\fK w.heap g.m v y:=λj=>by
   cases hj:row'[j]? with
   |none=>exact⟨Go.undef,λv h=>by cases h⟩
   |some v =>
    obtain⟨a1,y,a2,a3⟩:=h5 j v hj;exact⟨y,λu h=>by cases h;exact⟨a1,a2,a3⟩⟩
  have:=bh.ff (X:=S.cx g w) row' 0 k' 0 (λj=>(h6 j).choose) h3 (λj v hj=>by rw[kX];exact((h6 j).choose_spec v hj).2.1) (λj v hj=>((h6 j).choose_spec v hj).2.2) (λj v hj=>((h6 j).choose_spec v hj).1) (by rw[kX];exact h4)
  simpa using this
 .cases ho
variable{X:Cx}{k:IntKind}{x:Value}
def oA{n:Int}(h:bh X (.int k n) x):x=.int k n:=by
 cases h with|plain h _=>cases h;rfl
def CX{b:Bool}(h:bh X (.bool b) x):x=.bool b:=by
 cases h with|plain h _=>cases h;rfl
variable{n:Nat}
def wF(h:bh X (.er n) x):nn x:=by
 cases h with
 |plain h _=>cases h
 |er h=>exact h
def JA(h:bh X (.gF n) x):∃a cap,x=.slice (some a) 0 cap:=by
 cases h with
 |plain h _=>cases h
 |gF n a cap=>exact⟨a,cap,rfl⟩
def qK(h:bh X .cj x):x=.slice none 0 0:=by
 cases h with|plain h _=>cases h;rfl
variable{id off:Nat}
def CY(h:bh X (.bn id off) x):x=.pointer (some ⟨X.g.κ id,off,none⟩):=by
 cases h with
 |plain h _=>cases h
 |bn=>rfl
variable{i:Nat}
def CZ(h:bh X (.bu i off) x):x=.pointer (some ⟨X.g.γ i,off,none⟩)/\i<X.N:=by
 cases h with
 |plain h _=>cases h
 |bu _ _ h=>exact⟨rfl,h⟩
variable{s:Nat}
def GM(h:bh X (.cO i s n) x):i<X.N/\((∃cap,n<=cap/\x=.slice (some ⟨X.g.γ i,0,none⟩) n cap)\/n=0/\nn x):=by
 cases h with
 |plain h _=>cases h
 |cO _ _ _ cap h hl=>exact⟨h,.inl ⟨cap,hl,rfl⟩⟩
 |wD _ _ h hz=>exact⟨h,.inr ⟨rfl,hz⟩⟩
def al7(h:bh X (.jg i s off n) x):i<X.N/\∃cap,n<=cap/\x=.slice (some ⟨X.g.γ i,off*s,none⟩) n cap:=by
 cases h with
 |plain h _=>cases h
 |jg _ _ _ _ cap h hl=>exact⟨h,cap,hl,rfl⟩
def al8(h:bh X (.fQ id s off n) x):∃cap,n<=cap/\x=.slice (some ⟨X.g.κ id,off*s,none⟩) n cap:=by
 cases h with
 |plain h _=>cases h
 |fQ _ _ _ _ cap h=>exact⟨cap,h,rfl⟩
def tH(h:bh X (.bY id s n) x):(∃cap,n<=cap/\cap*s=X.g.cp id/\x=.slice (some ⟨X.g.κ id,0,none⟩) n cap)\/n=0/\nn x/\X.g.cp id=0:=by
 cases h with
 |plain h _=>cases h
 |bY _ _ _ cap h hc=>exact .inl ⟨cap,h,hc,rfl⟩
 |tF _ _ h hc=>exact .inr ⟨rfl,h,hc⟩
def tI{cs:List V}(h:bh X (.agg cs) x) :
  ∃xs:Array Value,x=.agg xs/\cs.length=xs.size/\∀(i:Nat) (v:V) (y:Value),cs[i]?=some v->xs[i]?=some y->bh X v y:=by
 cases h with
 |plain h _=>cases h
 |agg _ xs hl hx=>exact⟨xs,rfl,hl,hx⟩
def al9{cs:List V}(h:bh X (.tuple cs) x) :
  ∃xs:Array Value,x=.tuple xs/\cs.length=xs.size/\∀(i:Nat) (v:V) (y:Value),cs[i]?=some v->xs[i]?=some y->bh X v y:=by
 cases h with
 |plain h _=>cases h
 |tuple _ xs hl hx=>exact⟨xs,rfl,hl,hx⟩
def bh.int(k:IntKind)(n:Int):bh X (.int k n) (.int k n):=.plain (.int k n) (λ_ _ _ e=>by cases e)
def bh.bool(b:Bool):bh X (.bool b) (.bool b):=.plain (.bool b) (λ_ _ _ e=>by cases e)
structure PW(X:Cx)(cs:List V)(xs:List Value):Prop where
 len:cs.length=xs.length
 at_:∀(i:Nat) (v:V) (y:Value),cs[i]?=some v->xs[i]?=some y->bh X v y
variable{h:Array Obj}{m:Nat->Nat}
def fK.EA(hr:fK h m v x):x.oneCell'=true:=by
 cases hr<;>rfl
def Sc(h:bh X v x)(hc:v.c5=true):x.oneCell'=true:=by
 cases h with
 |plain h _=>exact h.EA
 |eC h=>exact h.EA
 |er h=>rcases h with rfl | ⟨a,rfl⟩<;>rfl
 |tF _ _ h _=>rcases h with rfl | ⟨a,rfl⟩<;>rfl
 |wD _ _ _ h=>rcases h with rfl | ⟨a,rfl⟩<;>rfl
 |undef=>simp[V.c5]at hc
 |agg=>simp[V.c5]at hc
 |tuple=>simp[V.c5]at hc
 |_=>rfl
def fK.cells(hr:fK h m v x):x.cells = #[x]:=by
 cases hr<;>rfl
def GN(h:bh X v x)(hu:∀u∈v.cells,u.c5=true):PW X v.cells x.cells.toList:=by
 cases h with
 |undef=>exact absurd (hu .undef (by simp[V.cells])) (by simp[V.c5])
 |plain h ht =>
  have hx:=h.cells;have hv:v.cells=[v]:=by cases h<;>rfl
  rw[hv,hx];refine⟨rfl,λi u y hu hy=>?_⟩;cases i with
  |zero=>simp at hu hy;subst hu;subst hy;exact .plain h ht
  |succ j=>simp at hu
 |er h =>
  refine⟨by rcases h with rfl | ⟨a,rfl⟩<;>rfl,λi u y hu hy=>?_⟩
  have hx:x.cells = #[x]:=by rcases h with rfl | ⟨a,rfl⟩<;>rfl
  rw[hx]at hy;cases i with
  |zero=>simp[V.cells]at hu hy;subst hu;subst hy;exact .er h
  |succ j=>simp[V.cells]at hu
 |gF n a cap=>exact⟨rfl,λi u y hu hy=>by cases i with|zero=>(simp[V.cells,Value.cells]at hu hy;subst hu;subst hy;exact .gF n a cap)|succ j=>simp[V.cells]at hu⟩
 |eC h =>
  rename_i n es;have hx:=h.cells;have hv:(V.eC n es).cells=[.eC n es]:=rfl;rw[hv,hx];refine⟨rfl,λi u y hu hy=>?_⟩;cases i with
  |zero=>simp at hu hy;subst hu;subst hy;exact .eC h
  |succ j=>simp at hu
 |agg cs xs hl hx=>exact⟨by simpa [V.cells,Value.cells] using hl,λi u y hu hy=>hx i u y hu (by simpa [Value.cells] using hy)⟩
 |tuple cs xs hl hx=>exact absurd (hu (.tuple cs) (by simp[V.cells])) (by simp[V.c5])
 |bn id off=>exact⟨rfl,λi u y hu hy=>by cases i with|zero=>(simp[V.cells,Value.cells]at hu hy;subst hu;subst hy;exact .bn id off)|succ j=>simp[V.cells]at hu⟩
 |bY id off n cap h hc=>exact⟨rfl,λi u y hu hy=>by cases i with|zero=>(simp[V.cells,Value.cells]at hu hy;subst hu;subst hy;exact .bY id off n cap h hc)|succ j=>simp[V.cells]at hu⟩
 |bu i off h=>exact⟨rfl,λi u y hu hy=>by cases i with|zero=>(simp[V.cells,Value.cells]at hu hy;subst hu;subst hy;exact .bu _ off h)|succ j=>simp[V.cells]at hu⟩
 |fQ id s off n cap h=>exact⟨rfl,λi u y hu hy=>by cases i with|zero=>(simp[V.cells,Value.cells]at hu hy;subst hu;subst hy;exact .fQ id s off n cap h)|succ j=>simp[V.cells]at hu⟩
 |cO i s n cap h hl=>exact⟨rfl,λi u y hu hy=>by cases i with|zero=>(simp[V.cells,Value.cells]at hu hy;subst hu;subst hy;exact .cO _ s n cap h hl)|succ j=>simp[V.cells]at hu⟩
 |jg i s off n cap h hl=>exact⟨rfl,λi u y hu hy=>by cases i with|zero=>(simp[V.cells,Value.cells]at hu hy;subst hu;subst hy;exact .jg _ s off n cap h hl)|succ j=>simp[V.cells]at hu⟩
 |tF id s h hc =>
  refine⟨by rcases h with rfl | ⟨a,rfl⟩<;>rfl,λi u y hu hy=>?_⟩
  have hx:x.cells = #[x]:=by rcases h with rfl | ⟨a,rfl⟩<;>rfl
  rw[hx]at hy;cases i with
  |zero=>simp[V.cells]at hu hy;subst hu;subst hy;exact .tF id s h hc
  |succ j=>simp[V.cells]at hu
 |wD k s h hz =>
  refine⟨by rcases hz with rfl | ⟨a,rfl⟩<;>rfl,λi u y hu hy=>?_⟩
  have hx:x.cells = #[x]:=by rcases hz with rfl | ⟨a,rfl⟩<;>rfl
  rw[hx]at hy;cases i with
  |zero=>simp[V.cells]at hu hy;subst hu;subst hy;exact .wD k s h hz
  |succ j=>simp[V.cells]at hu
 |ig=>exact⟨rfl,λi u y hu hy=>by cases i with|zero=>(simp[V.cells,Value.cells]at hu hy;subst hu;subst hy;exact .ig)|succ j=>simp[V.cells]at hu⟩
 |ff row off b o ys hb hc hv hp hm=>exact⟨rfl,λi u y hu hy=>by cases i with|zero=>(simp[V.cells,Value.cells]at hu hy;subst hu;subst hy;exact .ff row off b o ys hb hc hv hp hm)|succ j=>simp[V.cells]at hu⟩
 |fn f cap xs hl hx=>exact⟨rfl,λi u y hu hy=>by cases i with|zero=>(simp[V.cells,Value.cells]at hu hy;subst hu;subst hy;exact .fn f cap xs hl hx)|succ j=>simp[V.cells]at hu⟩
 |ij=>exact⟨rfl,λi u y hu hy=>by cases i with|zero=>(simp[V.cells,Value.cells]at hu hy;subst hu;subst hy;exact .ij)|succ j=>simp[V.cells]at hu⟩
 |map i h=>exact⟨rfl,λi u y hu hy=>by cases i with|zero=>(simp[V.cells,Value.cells]at hu hy;subst hu;subst hy;exact .map _ h)|succ j=>simp[V.cells]at hu⟩
 |ik=>exact⟨rfl,λi u y hu hy=>by cases i with|zero=>(simp[V.cells,Value.cells]at hu hy;subst hu;subst hy;exact .ik)|succ j=>simp[V.cells]at hu⟩
def Sd(h:bh X v x):bh X v.kq x:=by
 cases h with
 |eC h=>exact .plain h (λ_ _ _ e=>by cases e)
 |er h=>exact .er h
 |gF n a cap=>exact .gF n a cap
 |plain h t=>cases h<;>exact .plain (by first|exact .int _ _|exact .bool _|exact .str _|exact .cj|exact .nil _ _|exact .empty _ _ _ _|(rename_i a b c d e f g i;exact .slice _ _ _ _ _ _ _ (by assumption) (by assumption) (by assumption) (by assumption) (by assumption) (by assumption) (by assumption))) t
 |undef=>exact .undef
 |bn=>exact .bn _ _
 |bY _ _ _ _ h hc=>exact .bY _ _ _ _ h hc
 |bu _ _ h=>exact .bu _ _ h
 |tF _ _ h hc=>exact .tF _ _ h hc
 |fQ _ _ _ _ _ h=>exact .fQ _ _ _ _ _ h
 |cO _ _ _ _ h hl=>exact .cO _ _ _ _ h hl
 |wD _ _ h hz=>exact .wD _ _ h hz
 |jg _ _ _ _ _ h hl=>exact .jg _ _ _ _ _ h hl
 |ig=>exact .ig
 |ff row off b o ys hb hc hv hp hm=>exact .ff row off b o ys hb hc hv hp hm
 |fn f cap xs hl hx=>exact .fn f cap xs hl hx
 |ij=>exact .ij
 |map _ h=>exact .map _ h
 |ik=>exact .ik
 |agg cs xs hl hx=>exact .agg cs xs hl hx
 |tuple cs xs hl hx=>exact .tuple cs xs hl hx
def ZO(h:bh X v x):bh X v.ml x:=by
 have key:(∃cs,v=.agg cs)\/v.ml=v.kq:=by
  cases v<;>first|(left;exact⟨_,rfl⟩)|(right;rfl)
 rcases key with⟨cs,rfl⟩ | e
 .obtain⟨xs,e,hl,hx⟩:=tI h
  subst e;refine .agg _ _ (by simpa using hl) (λi u y hu hy=>?_)
  rw[xq]at hu;cases hc:cs[i]? with
  |none=>simp[hc]at hu
  |some z =>
   simp[hc]at hu;subst hu;exact Sd (hx i z y hc hy)
 .rw[e];exact Sd h
def ama{r:kE}(h:bh X v x):bh X (vx r v) x:=by
 cases r
 .exact h
 .exact ZO h
 .exact h
def cC(P:Program)(E:Entry)(o:Oper)(S:St)(S':St)(a:Act)(w:World):Prop :=
 ∀(K:Act->World->Prop) (Q:Exit->Act->World->Prop),(∀g' a' w',R E g' S' a' w'->K a' w')->o.wp P a w K Q
variable{o:Oper}{S':St}{g':Gh}{w':World}
def cC.value{S:St}(hrun:(execOp a.eval o).run P w=.ok (.value x) w')(hR:R E g' S' (a.put o.dst x) w') :
  cC P E o S S' a w:=λK Q hK=>by
 unfold Oper.wp;rw[hrun,Oper.upon_value];exact hK _ _ _ hR
def cC.skip{S:St}(hrun:(execOp a.eval o).run P w=.ok .skip w')(hd:o.dst=none)(hR:R E g' S' a w') :
  cC P E o S S' a w:=λK Q hK=>by
 unfold Oper.wp;rw[hrun,Oper.upon_skip,hd];exact hK _ _ _ hR
def cC.put(hR:R E g S a w)(hd:∀d,o.dst=some d->d<E.nt)
  (hrun:(execOp a.eval o).run P w=.ok (.value x) w) (hx:bh (S.cx g w) v x):cC P E o S (S.put o.dst v) a w :=
 .value hrun (hR.put hd hx)
variable{C:bI}
def ZP{y:Operand}{x:bG}(ho:o.op=.move y\/o.op=.assign y)(hx:cc y x=true)(hR:R E g S a w)
  (hd:∀d,o.dst=some d->d<E.nt) (hrun:VO.run C o.dst S (.mv x)=some S'):cC P E o S S' a w:=by
 simp only[VO.run]at hrun;split at hrun
 next v hv=>
  cases hrun;refine cC.put hR hd (x:=a.eval y) ?_ (di hR hx hv);rcases ho with ho|ho<;>simp[execOp,ho]
 .cases hrun
variable{p q:Operand}
def amb{c:Operand}{c' p' q':bG}(ho:o.op=.pick c p q)(hc:cc c c'=true)(hp:cc p p'=true)(hq:cc q q'=true)
  (hR:R E g S a w) (hd:∀d,o.dst=some d->d<E.nt) (hrun:VO.run C o.dst S (.pick c' p' q')=some S'):cC P E o S S' a w:=by
 simp only[VO.run]at hrun;split at hrun
 next t ht=>
  split at hrun
  next v hv=>
   cases hrun;have h1:=CX (di hR hc ht);refine cC.put hR hd (x:=if t then a.eval p else a.eval q) ?_ ?_
   .simp[execOp,ho,h1,asBool]
   .cases t
    .exact di hR hq hv
    .exact di hR hp hv
  .cases hrun
 .cases hrun
def amc(op:BinOp)(t:TypeId)(x y:Operand)(k k':IntKind)(m n:Int):(eqGuard op t x y (.int k m) (.int k' n)).run P w=.ok () w:=by
 unfold eqGuard;split<;>simp
def amd(op:BinOp)(t:TypeId)(x y:Operand)(m n:Bool):(eqGuard op t x y (.bool m) (.bool n)).run P w=.ok () w:=by
 unfold eqGuard;split<;>simp
variable{t:TypeId}{d:TypeDesc}
def kg(h:P.underlying t=some d):(underlying t).run P w=.ok d w:=by
 unfold underlying;simp[h]
variable{op:BinOp}
omit E g S a in
def ame{m n:Int}(h:Jw op k m n=some v) :
  ∃x,(binOp op t (.int k m) (.int k n)).run P w=.ok x w/\∀X:Cx,bh X v x:=by
 unfold Jw at h;split at h
 all_goals (try (cases h;done))
 all_goals (try (split at h;· cases h))
 all_goals (cases h)
 all_goals first
  |(refine⟨_,?_,λX=>bh.int _ _⟩;simp[binOp,Op.intArith];done)
  |(refine⟨_,?_,λX=>bh.int _ _⟩;simp[binOp,Op.intDiv, *];done)
  |(refine⟨_,?_,λX=>bh.int _ _⟩;simp[binOp,Op.shift, *];done)
  |(refine⟨_,?_,λX=>bh.bool _⟩;simp[binOp,Op.intCmp];done)
variable{t':TypeId}{y:bG}
def amf{x:bG}(ho:o.op=.binOp op t p q t')(hp:cc p x=true)(hq:cc q y=true)
  (hR:R E g S a w) (hd:∀d,o.dst=some d->d<E.nt) {m:Int} {k':IntKind} {n:Int} (h1:S.ev x=some (.int k m)) (h2:S.ev y=some (.int k' n))
  (hrun:VO.run C o.dst S (.bin op x y)=some S'):cC P E o S S' a w:=by
 simp only[VO.run,h1,h2,V.bin]at hrun;by_cases hk:k=k'
 .subst hk
  simp only[decide_true,bW]at hrun;split at hrun
  next v hv=>
   cases hrun;have e1:=oA (di hR hp h1);have e2:=oA (di hR hq h2);obtain⟨z,hz,hx⟩:=ame (P:=P) (w:=w) (t:=t) hv;refine cC.put hR hd (x:=z) ?_ (hx _);simp[execOp,ho,e1,e2,amc,hz]
  .cases hrun
 .simp[hk]at hrun
def amg(ht:P.underlying t=some .bool)(m n:Bool):(Op.equal t (.bool m) (.bool n)).run P w=.ok (m==n) w:=by
 unfold Op.equal;rw[show Op.maxDepth=9999+1 from rfl,Op.equalIn];simp[kg ht]
def amh{neg:Bool}{x:bG}(ho:o.op=.binOp (if neg then .neq else .eql) t p q t')(ht:P.underlying t=some .bool)(hp:cc p x=true)(hq:cc q y=true)
  (hR:R E g S a w) (hd:∀d,o.dst=some d->d<E.nt) (hrun:VO.run C o.dst S (.beq neg x y)=some S'):cC P E o S S' a w:=by
 simp only[VO.run]at hrun;split at hrun
 next m n h1 h2=>
  cases hrun;have e1:=CX (di hR hp h1);have e2:=CX (di hR hq h2);refine cC.put hR hd (x:=.bool (bif neg then m != n else m==n)) ?_ (bh.bool _);cases neg<;>simp[execOp,ho,e1,e2,amd,binOp,amg ht];cases m<;>cases n<;>rfl
 .cases hrun
def ami{x:bG}(ho:o.op=.binOp op t p q t')(hp:cc p x=true)(hq:cc q y=true)
  (hR:R E g S a w) (hd:∀d,o.dst=some d->d<E.nt) (hrun:VO.run C o.dst S (.bin op x y)=some S'):cC P E o S S' a w:=by
 have EB:=hrun;simp only[VO.run]at hrun;split at hrun
 next u v h1 h2=>
  split at hrun
  next z hz=>
   unfold V.bin at hz;split at hz
   .exact amf ho hp hq hR hd h1 h2 EB
   .cases hz
  .cases hrun
 .cases hrun
def amj{op:UnOp}{x:bG}(ho:o.op=.unOp op t p)(hp:cc p x=true)
  (hR:R E g S a w) (hd:∀d,o.dst=some d->d<E.nt) (hrun:VO.run C o.dst S (.un op x)=some S'):cC P E o S S' a w:=by
 simp only[VO.run]at hrun;split at hrun
 next u hu=>
  have hr:=di hR hp hu;split at hrun
  next v hv=>
   cases hrun;unfold V.un at hv;split at hv
   .have e:=CX hr
    split at hv<;>cases hv;refine cC.put hR hd (x:=_) ?_ (bh.bool _);simp[execOp,ho,e,Op.unary]
    try rfl
   .have e:=oA hr
    split at hv<;>cases hv;refine cC.put hR hd (x:=_) ?_ (bh.int _ _);simp[execOp,ho,e,Op.unary,Op.intArith]
    try rfl
   .cases hv
  .cases hrun
 .cases hrun
def amk{s:TypeId}{x:bG}(ho:o.op=.convert s t p)(hs:P.underlying s=some d)(ht:P.underlying t=some (.int k))(hp:cc p x=true)
  (hR:R E g S a w) (hd:∀d,o.dst=some d->d<E.nt) (hrun:VO.run C o.dst S (.conv k x)=some S'):cC P E o S S' a w:=by
 simp only[VO.run]at hrun;split at hrun
 next j n hn=>
  cases hrun;have e:=oA (di hR hp hn);refine cC.put hR hd (x:=_) ?_ (bh.int _ _);simp[execOp,ho,e,convert,kg hs,kg ht,Conv.intToInt]
  try rfl
 .cases hrun
def aml{x:bG}(ho:o.op=.nilCheck p)(hp:cc p x=true)
  (hR:R E g S a w) (hd:∀d,o.dst=some d->d<E.nt) (hrun:VO.run C o.dst S (.xu x)=some S'):cC P E o S S' a w:=by
 simp only[VO.run]at hrun;split at hrun
 next i f hv=>
  cases hrun;have hr:=di hR hp hv;have e:=CY hr;refine cC.put hR hd (x:=_) ?_ hr;simp[execOp,ho,e]
 next i f hv=>
  cases hrun;have hr:=di hR hp hv;obtain⟨e,_⟩:=CZ hr;refine cC.put hR hd (x:=_) ?_ hr;simp[execOp,ho,e]
 next r f hv=>
  cases hrun;have hr:=di hR hp hv;obtain⟨b,o',e⟩:∃b o',a.eval p=.pointer (some ⟨b,o',none⟩):=by
   generalize a.eval p=z at hr;cases hr with
   |plain h _=>cases h
   |ff _ _ b o'=>exact⟨b,_,rfl⟩
  refine cC.put hR hd (x:=_) ?_ hr;simp[execOp,ho,e]
 .cases hrun
def ZQ(h:bh X v x)(n:Nat) :
  (∀i o,v=.bn i o->∃b f,x=.pointer (some ⟨b,f,none⟩)/\bh X (.bn i (o+n)) (.pointer (some ⟨b,f+n,none⟩))) /\
  (∀i o,v=.bu i o->∃b f,x=.pointer (some ⟨b,f,none⟩)/\bh X (.bu i (o+n)) (.pointer (some ⟨b,f+n,none⟩))) /\
  (∀r o,v=.ff r o->∃b f,x=.pointer (some ⟨b,f,none⟩)/\bh X (.ff r (o+n)) (.pointer (some ⟨b,f+n,none⟩))):=by
 refine⟨λi o e=>?_,λi o e=>?_,λr o e=>?_⟩
 .subst e;rw[CY h];exact⟨_,_,rfl,.bn _ _⟩
 .subst e;obtain⟨e,hi⟩:=CZ h;rw[e];exact⟨_,_,rfl,.bu _ _ hi⟩
 .subst e
  cases h with
  |plain h _=>cases h
  |ff _ _ b o' ys hb hc hv hp hm=>exact⟨_,_,rfl,by rw[Nd];exact .ff r (o+n) b o' ys hb hc hv hp hm⟩
def lS(b f n:Nat):(⟨b,f,none⟩:Addr).add n=⟨b,f+n,none⟩:=by
 unfold Addr.add;split
 .simp[*]
 .rfl
def qL(h:(P.info? t).map (·.size)=some n):(sizeOf t).run P w=.ok n w:=by
 cases hi:P.info? t with
 |none=>simp[hi]at h
 |some i=>simp[hi]at h;simp[sizeOf,typeInfo,hi,h]
def amm{s:TypeId}{fi:Nat}{fs:Array Field}{f:Field}{x:bG}(ho:o.op=.fieldAddr s p fi)(hs:P.underlying s=some (.struct fs))
  (hf:fs[fi]?=some f) (hn:(P.info? f.type).map (·.size)=some n) (h0:n≠0) (ku:f.offset=off) (hp:cc p x=true)
  (hR:R E g S a w) (hd:∀d,o.dst=some d->d<E.nt) (hrun:VO.run C o.dst S (.xv off x)=some S'):cC P E o S S' a w:=by
 simp only[VO.run]at hrun;split at hrun
 all_goals first|(cases hrun;done)|skip
 all_goals
  rename_i hv;cases hrun;obtain⟨m1,m2,m3⟩:=ZQ (di hR hp hv) off
 .obtain⟨b,q,e,hr⟩:=m1 _ _ rfl
  refine cC.put hR hd (x:=_) ?_ hr;simp[execOp,ho,e,Instr.fieldAt,kg hs,hf,Instr.sureAddr,fieldPlace,qL hn,h0,ku,lS]
 .obtain⟨b,q,e,hr⟩:=m2 _ _ rfl
  refine cC.put hR hd (x:=_) ?_ hr;simp[execOp,ho,e,Instr.fieldAt,kg hs,hf,Instr.sureAddr,fieldPlace,qL hn,h0,ku,lS]
 .obtain⟨b,q,e,hr⟩:=m3 _ _ rfl
  refine cC.put hR hd (x:=_) ?_ hr;simp[execOp,ho,e,Instr.fieldAt,kg hs,hf,Instr.sureAddr,fieldPlace,qL hn,h0,ku,lS]
variable{sz:Nat}
def amn{len:Nat}{el:TypeId}{x i:bG}(ho:o.op=.indexAddr t p q)(ht:P.underlying t=some (.array len el))
  (hn:(P.info? el).map (·.size)=some sz) (hR:R E g S a w) (hp:∀v,S.ev x=some v->bh (S.cx g w) v (a.eval p)) (hq:cc q i=true)
  (hd:∀d,o.dst=some d->d<E.nt) (hrun:VO.run C o.dst S (.r7 (some len) sz x i)=some S'):cC P E o S S' a w:=by
 simp only[VO.run]at hrun;split at hrun
 next u k m hu hm=>
  have e2:=oA (di hR hq hm);cases hc:(decide (0<=m)&&decide (m<(len:Int))) with
  |false=>simp[hc]at hrun
  |true =>
   simp only[hc,bW]at hrun;simp only[bZ,jD]at hc;have hr:=hp _ hu;obtain⟨m1,m2,m3⟩:=ZQ hr (m.toNat*sz);split at hrun<;>first|(cases hrun;done)|skip
   all_goals cases hrun
   .obtain⟨b,f,e,hx⟩:=m1 _ _ rfl
    refine cC.put hR hd (x:=_) ?_ hx;simp[execOp,ho,e,e2,Instr.indexAt,asIntOf,kg ht,Instr.sureAddr,qL hn,hc,lS]
   .obtain⟨b,f,e,hx⟩:=m2 _ _ rfl
    refine cC.put hR hd (x:=_) ?_ hx;simp[execOp,ho,e,e2,Instr.indexAt,asIntOf,kg ht,Instr.sureAddr,qL hn,hc,lS]
   .obtain⟨b,f,e,hx⟩:=m3 _ _ rfl
    refine cC.put hR hd (x:=_) ?_ hx;simp[execOp,ho,e,e2,Instr.indexAt,asIntOf,kg ht,Instr.sureAddr,qL hn,hc,lS]
 .cases hrun
def fg{α:Type}{l:List α}{x:α}(h:l[i]?=some x):i<l.length:=by
 rcases cS i l.length with h' | h'
 .exact h'
 .simp[kW h']at h
def amo{el:TypeId}{x i:bG}(ho:o.op=.indexAddr t p q)(ht:P.underlying t=some (.slice el))
  (hn:(P.info? el).map (·.size)=some sz) (hp:cc p x=true) (hq:cc q i=true)
  (hR:R E g S a w) (hd:∀d,o.dst=some d->d<E.nt) (hrun:VO.run C o.dst S (.r7 none sz x i)=some S'):cC P E o S S' a w:=by
 simp only[VO.run]at hrun;split at hrun
 next tk m es k z hu hm=>
  have e2:=oA (di hR hq hm);cases hc:(decide (0<=z)&&(m==sz)) with
  |false=>simp[hc]at hrun
  |true =>
   simp only[hc,bW]at hrun;simp only[bZ,jD,ec]at hc;obtain⟨hz,rfl⟩:=hc;split at hrun
   next row jG=>
    cases hrun;have bJ:=fg jG;have hr:=di hR hp hu;obtain⟨b,off,cap,ys,e,hb,eM,h1,h2,h3,h3p,h4⟩:∃(b off cap:Nat) (ys:Nat->Nat->Value),a.eval p=.slice (some ⟨b,off,none⟩) es.length cap/\b<w.heap.size/\es.length<=cap /\
      (∀(i:Nat) (row:List V),es[i]?=some row->row.length=m) /\
      (∀(i:Nat) (row:List V) (j:Nat) (v:V),es[i]?=some row->row[j]?=some v->cellAt w.heap b (off+i*m+j)=some (ys i j)) /\
      (∀(i:Nat) (row:List V) (j:Nat) (v:V),es[i]?=some row->row[j]?=some v->fK w.heap g.m v (ys i j)) /\
      (∀(i:Nat) (row:List V) (j:Nat) (v:V),es[i]?=some row->row[j]?=some v->v.plain=true)/\off+es.length*m<=g.m b:=by
     generalize a.eval p=y at hr;cases hr with
     |plain h _ =>
      cases h with
      |nil=>simp at bJ
      |empty=>simp at bJ
      |slice _ _ _ b off cap ys hb eM jG hc hv hp hm=>exact⟨b,off,cap,ys,rfl,hb,eM,jG,hc,hv,hp,hm⟩
    refine cC.put hR hd (x:=.pointer (some ⟨b,off+z.toNat*m,none⟩)) ?_ ?_
    .have EC:z<(es.length:Int):=by omega
     simp[execOp,ho,e,e2,Instr.indexAt,asIntOf,kg ht,qL hn,hz,EC,lS]
    .refine .ff row 0 b (off+z.toNat*m) (ys z.toNat) hb (λj v hj=>h2 _ row j v jG hj) (λj v hj=>h3 _ row j v jG hj) (λj v hj=>h3p _ row j v jG hj) ?_
     have:=h1 _ row jG;have h5:z.toNat*m+m<=es.length*m:=by
      have:=uk m bJ;rw[rY]at this;exact this
     show off+z.toNat*m+row.length<=g.m b;omega
   .cases hrun
 next id off len k z hu hm=>
  have e2:=oA (di hR hq hm);cases hc:(decide (0<=z)&&decide (z<(len:Int))&&(off==sz)) with
  |false=>simp[hc]at hrun
  |true =>
   simp only[hc,bW]at hrun;simp only[bZ,jD]at hc;cases hrun;have hr:=di hR hp hu;rcases tH hr with⟨cap,eM,_,hy⟩ | ⟨h0,_⟩
   .refine cC.put hR hd (x:=.pointer (some ⟨g.κ id,z.toNat*sz,none⟩)) ?_ (.bn _ _)
    simp[execOp,ho,hy,e2,Instr.indexAt,asIntOf,kg ht,qL hn,hc.1,lS];rfl
   .omega
 next id off len k z hu hm=>
  have e2:=oA (di hR hq hm);cases hc:(decide (0<=z)&&decide (z<(len:Int))&&(off==sz)) with
  |false=>simp[hc]at hrun
  |true =>
   simp only[hc,bW]at hrun;simp only[bZ,jD]at hc;cases hrun;have hr:=di hR hp hu;obtain⟨hi,⟨cap,eM,hy⟩ | ⟨h0,_⟩⟩:=GM hr
   .refine cC.put hR hd (x:=.pointer (some ⟨g.γ id,z.toNat*sz,none⟩)) ?_ (.bu _ _ hi)
    simp[execOp,ho,hy,e2,Instr.indexAt,asIntOf,kg ht,qL hn,hc.1,lS];rfl
   .omega
 .cases hrun
variable{ts:Array TypeId}
def amp{e:TypeId}{x:bG}(ho:o.op=.call ⟨.builtin .len,#[p],ts⟩)(xG:ts[0]?=some t)
  (ht:P.underlying t=some (.slice e)) (hp:cc p x=true)
  (hR:R E g S a w) (hd:∀d,o.dst=some d->d<E.nt) (hrun:VO.run C o.dst S (.len x)=some S'):cC P E o S S' a w:=by
 have go:∀(v:V) (n:Nat),S.ev x=some v->(∃q cap,a.eval p=.slice q n cap)->cC P E o S (S.put o.dst (.int .i64 n)) a w:=by
  intro v n hv ⟨q,cap,e⟩;refine cC.put hR hd (x:=.int .i64 n) ?_ (bh.int _ _);simp[execOp,ho,resolve,invoke,builtin,Builtin.len_,xG,e,kg ht,goInt]
 simp only[VO.run]at hrun;split at hrun
 next hv=>
  cases hrun;exact go _ 0 hv ⟨none,0,qK (di hR hp hv)⟩
 next n hv=>
  cases hrun;refine go _ 0 hv ?_;rcases wF (di hR hp hv) with e | ⟨a,e⟩
  .exact⟨_,_,e⟩
  .exact⟨_,_,e⟩
 next n hv=>
  cases hrun;refine go _ 0 hv ?_;obtain⟨a,cap,e⟩:=JA (di hR hp hv);exact⟨_,_,e⟩
 next tk n es hv=>
  cases hrun;have hr:=di hR hp hv;refine go _ _ hv ?_;generalize a.eval p=y at hr;cases hr with
  |plain h _=>cases h with
   |nil=>exact⟨none,0,rfl⟩
   |empty _ _ a cap=>exact⟨some a,cap,rfl⟩
   |slice=>exact⟨_,_,rfl⟩
 next i f n hv=>
  cases hrun;have hr:=di hR hp hv;refine go _ _ hv ?_;rcases tH hr with⟨cap,_,_,hy⟩ | ⟨h0,hy | ⟨a,hy⟩,_⟩
  .exact⟨_,_,hy⟩
  .subst h0;exact⟨_,_,hy⟩
  .subst h0;exact⟨_,_,hy⟩
 next i f n hv=>
  cases hrun;have hr:=di hR hp hv;refine go _ _ hv ?_;obtain⟨_,⟨cap,_,hy⟩ | ⟨h0,hy | ⟨a,hy⟩⟩⟩:=GM hr
  .exact⟨_,_,hy⟩
  .subst h0;exact⟨_,_,hy⟩
  .subst h0;exact⟨_,_,hy⟩
 .cases hrun
def ams{k:Nat}{x:bG}(ho:o.op=.extract p k)(hp:cc p x=true)
  (hR:R E g S a w) (hd:∀d,o.dst=some d->d<E.nt) (hrun:VO.run C o.dst S (.ext x k)=some S'):cC P E o S S' a w:=by
 simp only[VO.run]at hrun;split at hrun
 next vs hv=>
  split at hrun
  next v hk=>
   cases hrun;obtain⟨xs,e,hl,hx⟩:=al9 (di hR hp hv);have bJ:k<xs.size:=by rw[<-hl];exact fg hk
   refine cC.put hR hd (x:=xs[k]) ?_ (hx k v xs[k] hk (by simp[bJ]))
   simp[execOp,ho,e,Instr.extract,bJ]
  .cases hrun
 .cases hrun
variable{mx:Bool}
def amt{x:bG}(ho:o.op=.call ⟨.builtin (if mx then .max else .min),#[p,q],ts⟩)(hp:cc p x=true)(hq:cc q y=true)
  (hR:R E g S a w) (hd:∀d,o.dst=some d->d<E.nt) (hrun:VO.run C o.dst S (.mm mx x y)=some S'):cC P E o S S' a w:=by
 simp only[VO.run]at hrun;split at hrun
 next k m k' n hm hn=>
  cases hrun;have e1:=oA (di hR hp hm);have e2:=oA (di hR hq hn);refine cC.put hR hd (x:=_) ?_ (bh.int _ _);cases mx
  .simp[execOp,ho,e1,e2,resolve,invoke,builtin,Builtin.min_,Builtin.min2]
   rw[Int.min_def];split<;>split<;>omega
  .simp[execOp,ho,e1,e2,resolve,invoke,builtin,Builtin.max_,Builtin.max2]
   rw[Int.max_def];split<;>split<;>omega
 .cases hrun
def amu{r:Operand}{x z:bG}(ho:o.op=.call ⟨.builtin (if mx then .max else .min),#[p,q,r],ts⟩)(hp:cc p x=true)(hq:cc q y=true)(hz:cc r z=true)
  (hR:R E g S a w) (hd:∀d,o.dst=some d->d<E.nt) (hrun:VO.run C o.dst S (.xA mx x y z)=some S'):cC P E o S S' a w:=by
 simp only[VO.run]at hrun;split at hrun
 next k m k' n k'' l hm hn hl=>
  cases hrun;have e1:=oA (di hR hp hm);have e2:=oA (di hR hq hn);have e3:=oA (di hR hz hl);refine cC.put hR hd (x:=_) ?_ (bh.int _ _);cases mx
  .simp[execOp,ho,e1,e2,e3,resolve,invoke,builtin,Builtin.min_,Builtin.min2]
   simp only[Int.min_def];repeat' split
   all_goals omega
  .simp[execOp,ho,e1,e2,e3,resolve,invoke,builtin,Builtin.max_,Builtin.max2]
   simp only[Int.max_def];repeat' split
   all_goals omega
 .cases hrun
def amv{f:FuncId}{Ba:Array Operand}{cap:List bG}(ho:o.op=.makeFunc (.func (kb f)) #[] Ba)(hc:cap.length=Ba.size/\∀(i:Nat) x y,cap[i]?=some x->Ba[i]?=some y->cc y x=true)
  (hR:R E g S a w) (hd:∀d,o.dst=some d->d<E.nt) (hrun:VO.run C o.dst S (.yK f cap)=some S'):cC P E o S S' a w:=by
 have amw:∀{xs:List bG} {vs:List V},r8 S xs=some vs->vs.length=xs.length/\∀(i:Nat) (v:V),vs[i]?=some v->∃x,xs[i]?=some x/\S.ev x=some v:=by
  intro xs;induction xs with
  |nil=>intro vs h;simp[r8]at h;subst h;simp
  |cons x xs ih =>
   intro vs h;simp only[r8]at h;split at h
   next v GO h1 h2=>
    cases h;obtain⟨p,q⟩:=ih h2;refine⟨by simp[p],λi u hu=>?_⟩
    cases i with
    |zero=>simp at hu;subst hu;exact⟨x,by simp,h1⟩
    |succ i=>obtain⟨z,hz,he⟩:=q i u (by simpa using hu);exact⟨z,by simpa using hz,he⟩
   .cases h
 have amx:∀{vs us:List V},Ev vs=some us->us=vs/\∀v∈vs,∃i o,v=.bu i o:=by
  intro vs;induction vs with
  |nil=>intro us h;simp[Ev]at h;subst h;simp
  |cons v vs ih =>
   intro us h;unfold Ev at h;split at h
   next heq=>cases heq
   next i o GO heq=>
    cases heq;split at h
    next mN hu=>
     cases h;obtain⟨p,q⟩:=ih hu;subst p;exact⟨rfl,λz hz=>by
      rcases iA.1 hz with e|e
      .exact⟨_,_,e⟩
      .exact q z e⟩
    .cases h
   .cases h
 simp only[VO.run]at hrun;split at hrun
 next vs tJ=>
  split at hrun
  next us qN=>
   cases hrun;obtain⟨l1,g1⟩:=amw tJ;obtain⟨rfl,g2⟩:=amx qN;refine cC.put hR hd (x:=.func (.func (kb f)) #[] (Ba.map a.eval)) ?_ (.fn f us _ (by simp;omega) (λj v hj=>?_))
   .simp[execOp,ho,Instr.makeFunc]
   .obtain⟨i,o',e⟩:=g2 v (gw hj)
    obtain⟨x,hx,Bb⟩:=g1 j v hj;have bJ:j<Ba.size:=by have:=fg hx;omega
    have hr:=di hR (hc.2 j x Ba[j] hx (by simp[bJ])) Bb
    subst e;obtain⟨e2,hi⟩:=CZ hr;exact⟨i,o',rfl,hi,by simp[bJ,e2]⟩
  .cases hrun
 .cases hrun
end
