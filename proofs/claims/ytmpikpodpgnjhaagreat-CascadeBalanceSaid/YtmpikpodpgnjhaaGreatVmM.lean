/- The value machine, 22: weakest preconditions of the evaluator. -/
import Derived.Test.YtmpikpodpgnjhaaGreatVmI
namespace Go.Vm
set_option linter.all false
def cN{α:Type}(o:Option α)(P:α→Prop):Prop:=∃a,o=some a∧P a
@[congr] theorem akV{α:Type}{o o':Option α}{P:α→Prop}(h:o=o'):cN o P=cN o' P:=by rw[h]
@[simp] theorem ry{α:Type}{a:α}{P:α→Prop}:cN (some a) P=P a:=by simp[cN]
theorem akW{α:Type}{o:Option α}{a:α}{P:α→Prop}(h:o=some a)(hp:P a):cN o P:=⟨a,h,hp⟩
def sy(o:Option V)(A B:Prop):Prop:=∃t,o=some (.bool t)∧(bif t then A else B)
@[congr] theorem akX{o o':Option V}{A B:Prop}(h:o=o'):sy o A B=sy o' A B:=by rw[h]
@[simp] theorem akY{A B:Prop}:sy (some (.bool true)) A B=A:=by simp[sy]
@[simp] theorem akZ{A B:Prop}:sy (some (.bool false)) A B=B:=by simp[sy]
theorem b9{p:Prop}{dp:Decidable p}{A B:Prop}(ha:p→A)(hb:¬p→B):sy (some (.bool (decide p))) A B:=by
 by_cases h:p
 ·simpa [h] using ha h
 ·simpa [h] using hb h
theorem gT{t:Bool}{A B:Prop}(ha:t=true→A)(hb:t=false→B):sy (some (.bool t)) A B:=by
 cases t
 ·simpa using hb rfl
 ·simpa using ha rfl
abbrev cH:=nU→St→Prop
def go(L:bC)(c:VC)(S:St)(k:cH):Prop:=∃n e T,VC.run L n c S=some (e,T)∧k e T
@[congr] theorem go_congr{L:bC}{c:VC}{S S':St}{k:cH}(h:S=S'):go L c S k=go L c S' k:=by rw[h]
theorem uG{L:bC}{n m:Nat}(h:n≤m){c:VC}{S:St}{x:nU×St}(hr:VC.run L n c S=some x):VC.run L m c S=some x :=
 w8 (fun _ _ _ _ h=>h) h hr
theorem go.mono{L:bC}{c:VC}{S:St}{k k':cH}(h:go L c S k)(hk:∀e T,k e T→k' e T):go L c S k':=by
 obtain⟨n,e,T,h1,h2⟩:=h;exact⟨n,e,T,h1,hk _ _ h2⟩
def sq(L:bC)(b:VC)(k:cH):cH:=fun e T=>match e with
 |.normal=>go L b T k
 |.exit i=>k (.exit i) T
 |.ret=>k .ret T
@[simp] theorem ak0{L:bC}{b:VC}{k:cH}{T:St}:sq L b k .normal T=go L b T k:=rfl
@[simp] theorem ak1{L:bC}{b:VC}{k:cH}{i:Nat}{T:St}:sq L b k (.exit i) T=k (.exit i) T:=rfl
@[simp] theorem ak2{L:bC}{b:VC}{k:cH}{T:St}:sq L b k .ret T=k .ret T:=rfl
def bk(id:Nat)(k:cH):cH:=fun e T=>match e with
 |.normal=>k .normal T
 |.exit i=>bif i==id then k .normal T else k (.exit i) T
 |.ret=>k .ret T
@[simp] theorem ak3{id:Nat}{k:cH}{T:St}:bk id k .normal T=k .normal T:=rfl
def C3(b:Bool)(k:cH)(i:Nat)(T:St):Prop:=bif b then k .normal T else k (.exit i) T
@[congr] theorem ak4{b b':Bool}{k:cH}{i:Nat}{T:St}(h:b=b'):C3 b k i T=C3 b' k i T:=by rw[h]
@[simp] theorem ak5{k:cH}{i:Nat}{T:St}:C3 true k i T=k .normal T:=rfl
@[simp] theorem ak6{k:cH}{i:Nat}{T:St}:C3 false k i T=k (.exit i) T:=rfl
@[simp] theorem ak7{id:Nat}{k:cH}{i:Nat}{T:St}:bk id k (.exit i) T=C3 (i==id) k i T:=rfl
@[simp] theorem ak8{id:Nat}{k:cH}{T:St}:bk id k .ret T=k .ret T:=rfl
def eb(L:bC)(os:List bI)(keep:c9)(k:cH):St→Prop:=fun S=>∃T,gO L os S=some T∧k .normal (T.keep keep)
@[congr] theorem ak9{L:bC}{os:List bI}{keep:c9}{k:cH}{S S':St}(h:S=S'):eb L os keep k S=eb L os keep k S':=by rw[h]
@[simp] theorem ala{L:bC}{keep:c9}{k:cH}{S:St}:eb L [] keep k S=k .normal (S.keep keep):=by simp[eb,gO]
@[simp] theorem alb{L:bC}{d:Option Nat}{op:VO}{os:List bI}{keep:c9}{k:cH}{S:St}:eb L (⟨d,op,none⟩::os) keep k S=cN (op.run L d S) (eb L os keep k):=by
 unfold eb cN;simp only[gO,bI.run];cases op.run L d S<;>simp
theorem iy{L:bC}{o:bI}{os:List bI}{keep:c9}{k:cH}{S:St}:eb L (o::os) keep k S=cN (o.run L S) (eb L os keep k):=by
 unfold eb cN;simp only[gO];cases o.run L S<;>simp
def kr{α:Type}(c:Bool)(a b:α):α:=bif c then a else b
@[congr] theorem alc{α:Type}{c c':Bool}{a a' b b':α}(hc:c=c')(ha:c'=true→a=a')(hb:c'=false→b=b'):kr c a b=kr c' a' b':=by
 subst hc;cases c
 ·exact hb rfl
 ·exact ha rfl
@[congr] theorem ald{α:Type}{p q:Prop}{dp:Decidable p}[dq:Decidable q]{a a' b b':α}(hc:p=q)(ha:q→a=a')(hb:¬q→b=b'):@kr α (@decide p dp) a b=kr (decide q) a' b':=by
 subst hc;by_cases h:p
 ·simp[kr,h,ha h]
 ·simp[kr,h,hb h]
theorem eS{a b:Int}:(a==b)=decide (a=b):=by by_cases h:a=b<;>simp[h]
theorem eT{a b:Int}:(a != b) = !decide (a=b):=by by_cases h:a=b<;>simp[h]
theorem eU{α:Type}{p:Prop}{dp:Decidable p}{a b:α}(h:p):(bif decide p then a else b)=a:=by simp[h]
@[simp] theorem ale{k:Int}:decide (k≤(lim:Int))=decide (k≤4294967296):=rfl
@[simp] theorem alf{k:Nat}:decide (k≤lim)=decide (k≤4294967296):=rfl
theorem eV{α:Type}{p q:Prop}{dp:Decidable p}{dq:Decidable q}{a b:α}(h:p∧q):(bif decide p&&decide q then a else b)=a:=by simp[h.1,h.2]
@[simp] theorem alg{α:Type}{a b:α}:kr true a b=a:=rfl
@[simp] theorem alh{α:Type}{a b:α}:kr false a b=b:=rfl
@[simp] theorem ali{α:Type}{c:Bool}{a b:α}:kr (!c) a b=kr c b a:=by cases c<;>rfl
@[simp] theorem alj{α:Type}{c:Bool}{a b:α}:kr c (some a) (some b)=some (kr c a b):=by cases c<;>rfl
@[simp] theorem alk{c a b:Bool}:kr c (V.bool a) (V.bool b)=V.bool (bif c then a else b):=by cases c<;>rfl
def jo(o:Option V)(w:Bool)(x:Option V):Option V :=
 match o with
 |some (.bool b)=>bif b==w then x else some .undef
 |some .undef=>some .undef
 |_=>none
@[simp] theorem alm{b:Bool}{x:Option V}:jo (some (.bool b)) true x=kr b x (some .undef):=by cases b<;>rfl
@[simp] theorem aln{b:Bool}{x:Option V}:jo (some (.bool b)) false x=kr b (some .undef) x:=by cases b<;>rfl
@[simp] theorem alo{w:Bool}{x:Option V}:jo (some .undef) w x=some .undef:=rfl
@[simp] theorem alp{c b w:Bool}{v:V}{x:Option V}:jo (some (kr c (.bool b) v)) w x=kr c (jo (some (.bool b)) w x) (jo (some v) w x):=by cases c<;>rfl
@[simp] theorem alq{c b w:Bool}{v:V}{x:Option V}:jo (some (kr c v (.bool b))) w x=kr c (jo (some v) w x) (jo (some (.bool b)) w x):=by cases c<;>rfl
def vx(t:Option V)(x y:Option V):Option V:=match t with
 |some (.bool b)=>kr b x y
 |_=>none
@[simp] theorem alr{b:Bool}{x y:Option V}:vx (some (.bool b)) x y=kr b x y:=rfl
def kb(L:bC)(d:Nat)(S:St)(os:List bI)(keep:c9)(k:cH):V→Prop:=fun v=>eb L os keep k (S.put (some d) v)
@[simp] theorem als{L:bC}{d:Nat}{S:St}{os:List bI}{keep:c9}{k:cH}{v:V}:kb L d S os keep k v=eb L os keep k { S with env:=(d,v)::S.env }:=rfl
theorem nz{L:bC}{d g:Nat}{w:Bool}{op:VO}{x:Option V}{S:St}{os:List bI}{keep:c9}{k:cH}(aj:op.run L (some d) S=x.map (S.put (some d))) :
  cN (bI.run L ⟨some d,op,some (g,w)⟩ S) (eb L os keep k)=cN (jo (look g S.env) w x) (kb L d S os keep k):=by
 unfold bI.run jo;simp only;cases look g S.env with
 |none=>simp[cN]
 |some v =>
  cases v with
  |bool b =>
   simp only[aj];cases b==w with
   |true=>cases x<;>simp[cN,kb]
   |false=>simp[cN,kb]
  |undef=>simp[cN,kb]
  |_=>simp[cN]
@[simp high] theorem alu{L:bC}{d:Nat}{c a b:bB}{os:List bI}{keep:c9}{k:cH}{S:St} :
  eb L (⟨some d,.pick c a b,none⟩::os) keep k S=cN (vx (S.ev c) (S.ev a) (S.ev b)) (kb L d S os keep k):=by
 rw[iy];simp only[bI.run,VO.run];rcases S.ev c with _|v
 ·simp[cN,vx]
 ·cases v with
  |bool t =>
   cases t
   ·simp only[vx,kr,cond_false]
    cases S.ev b<;>simp[cN,kb]
   ·simp only[vx,kr,cond_true]
    cases S.ev a<;>simp[cN,kb]
  |_=>simp[cN,vx]
@[simp] theorem alv{L:bC}{d g:Nat}{w:Bool}{x:bB}{os:List bI}{keep:c9}{k:cH}{S:St} :
  eb L (⟨some d,.mv x,some (g,w)⟩::os) keep k S=cN (jo (look g S.env) w (S.ev x)) (kb L d S os keep k):=by
 rw[iy];refine nz ?_;simp only[VO.run]
 repeat' split
 all_goals (first|rfl|simp_all[St.put])
@[simp] theorem alw{L:bC}{d g:Nat}{w:Bool}{c a b:bB}{os:List bI}{keep:c9}{k:cH}{S:St} :
  eb L (⟨some d,.pick c a b,some (g,w)⟩::os) keep k S=cN (jo (look g S.env) w (vx (S.ev c) (S.ev a) (S.ev b))) (kb L d S os keep k):=by
 rw[iy];refine nz ?_;simp only[VO.run];rcases S.ev c with _|v
 ·rfl
 ·cases v with
  |bool t =>
   cases t
   ·simp only[vx,kr,cond_false]
    cases S.ev b<;>rfl
   ·simp only[vx,kr,cond_true]
    cases S.ev a<;>rfl
  |_=>rfl
@[simp] theorem alx{L:bC}{d g:Nat}{w:Bool}{z:List V}{ps:List (Nat×Nat×bB)}{os:List bI}{keep:c9}{k:cH}{S:St} :
  eb L (⟨some d,.build z ps,some (g,w)⟩::os) keep k S=cN (jo (look g S.env) w (match pI S ps z with|some cs=>some (.agg cs)|none=>none)) (kb L d S os keep k):=by
 rw[iy];refine nz ?_;simp only[VO.run]
 repeat' split
 all_goals (first|rfl|simp_all[St.put])
@[simp] theorem aly{L:bC}{d g:Nat}{w:Bool}{r:jx}{z:Option Nat}{p:bB}{os:List bI}{keep:c9}{k:cH}{S:St} :
  eb L (⟨some d,.load r z p,some (g,w)⟩::os) keep k S=cN (jo (look g S.env) w (match S.ev p with|some v=>bif r.fits v then (match S.na v with|some (cs,off)=>(loadAt z cs off).map (xF r)|none=>none) else none|none=>none)) (kb L d S os keep k):=by
 rw[iy];refine nz ?_;simp only[VO.run];rcases S.ev p with _|v
 ·rfl
 ·simp only
  cases r.fits v with
  |false=>rfl
  |true =>
   rcases S.na v with _ | ⟨cs,off⟩
   ·rfl
   ·simp only[cond_true]
    rcases loadAt z cs off with _|u<;>rfl
@[simp] theorem alz{L:bC}{d g:Nat}{w:Bool}{x:bB}{os:List bI}{keep:c9}{k:cH}{S:St} :
  eb L (⟨some d,.qn x,some (g,w)⟩::os) keep k S=cN (jo (look g S.env) w (match S.ev x with|some (.bK i o)=>some (.bK i o)|some (.bO i o)=>some (.bO i o)|some (.fa r o)=>some (.fa r o)|_=>none)) (kb L d S os keep k):=by
 rw[iy];refine nz ?_;simp only[VO.run]
 repeat' split
 all_goals (first|rfl|simp_all[St.put])
@[simp] theorem alA{L:bC}{d g:Nat}{w:Bool}{o:BinOp}{x y:bB}{os:List bI}{keep:c9}{k:cH}{S:St} :
  eb L (⟨some d,.bin o x y,some (g,w)⟩::os) keep k S=cN (jo (look g S.env) w (match S.ev x,S.ev y with|some a,some b=>V.bin o a b|_,_=>none)) (kb L d S os keep k):=by
 rw[iy];refine nz ?_;simp only[VO.run]
 repeat' split
 all_goals (first|rfl|simp_all[St.put])
@[simp] theorem alB{L:bC}{d g:Nat}{w:Bool}{n:Bool}{x y:bB}{os:List bI}{keep:c9}{k:cH}{S:St} :
  eb L (⟨some d,.beq n x y,some (g,w)⟩::os) keep k S=cN (jo (look g S.env) w (match S.ev x,S.ev y with|some (.bool a),some (.bool b)=>some (.bool (bif n then a != b else a==b))|_,_=>none)) (kb L d S os keep k):=by
 rw[iy];refine nz ?_;simp only[VO.run]
 repeat' split
 all_goals (first|rfl|simp_all[St.put])
@[simp] theorem alC{L:bC}{d g:Nat}{w:Bool}{n:Bool}{ks:List Nat}{x y:bB}{os:List bI}{keep:c9}{k:cH}{S:St} :
  eb L (⟨some d,.gW n ks x y,some (g,w)⟩::os) keep k S=cN (jo (look g S.env) w (match S.ev x,S.ev y with|some a,some b=>V.gW n ks a b|_,_=>none)) (kb L d S os keep k):=by
 rw[iy];refine nz ?_;simp only[VO.run]
 repeat' split
 all_goals (first|rfl|simp_all[St.put])
@[simp] theorem alD{L:bC}{d g:Nat}{w:Bool}{o:UnOp}{x:bB}{os:List bI}{keep:c9}{k:cH}{S:St} :
  eb L (⟨some d,.un o x,some (g,w)⟩::os) keep k S=cN (jo (look g S.env) w (match S.ev x with|some a=>V.un o a|none=>none)) (kb L d S os keep k):=by
 rw[iy];refine nz ?_;simp only[VO.run]
 repeat' split
 all_goals (first|rfl|simp_all[St.put])
@[simp] theorem alE{L:bC}{d g:Nat}{w:Bool}{kk:IntKind}{x:bB}{os:List bI}{keep:c9}{k:cH}{S:St} :
  eb L (⟨some d,.conv kk x,some (g,w)⟩::os) keep k S=cN (jo (look g S.env) w (match S.ev x with|some (.int _ n)=>some (.int kk (kk.wrap n))|_=>none)) (kb L d S os keep k):=by
 rw[iy];refine nz ?_;simp only[VO.run]
 repeat' split
 all_goals (first|rfl|simp_all[St.put])
@[simp] theorem alF{L:bC}{d g:Nat}{w:Bool}{n:Nat}{x:bB}{os:List bI}{keep:c9}{k:cH}{S:St} :
  eb L (⟨some d,.qW n x,some (g,w)⟩::os) keep k S=cN (jo (look g S.env) w (match S.ev x with|some (.bK i o)=>some (.bK i (o+n))|some (.bO i o)=>some (.bO i (o+n))|some (.fa r o)=>some (.fa r (o+n))|_=>none)) (kb L d S os keep k):=by
 rw[iy];refine nz ?_;simp only[VO.run]
 repeat' split
 all_goals (first|rfl|simp_all[St.put])
@[simp] theorem alG{L:bC}{d g:Nat}{w:Bool}{x:bB}{os:List bI}{keep:c9}{k:cH}{S:St} :
  eb L (⟨some d,.len x,some (g,w)⟩::os) keep k S=cN (jo (look g S.env) w (match S.ev x with|some .aK=>some (.int .i64 0)|some (.dW _)=>some (.int .i64 0)|some (.fD _)=>some (.int .i64 0)|some (.slice _ _ es)=>some (.int .i64 es.length)|some (.cb _ _ n)=>some (.int .i64 n)|some (.dB _ _ n)=>some (.int .i64 n)|_=>none)) (kb L d S os keep k):=by
 rw[iy];refine nz ?_;simp only[VO.run]
 repeat' split
 all_goals (first|rfl|simp_all[St.put])
@[simp] theorem alH{L:bC}{d g:Nat}{w:Bool}{x:bB}{os:List bI}{keep:c9}{k:cH}{S:St} :
  eb L (⟨some d,.s6 x,some (g,w)⟩::os) keep k S=cN (jo (look g S.env) w (match S.ev x with|some (.str s)=>some (.int .i64 s.length)|_=>none)) (kb L d S os keep k):=by
 rw[iy];refine nz ?_;simp only[VO.run]
 repeat' split
 all_goals (first|rfl|simp_all[St.put])
@[simp] theorem alI{L:bC}{d g:Nat}{w:Bool}{x:bB}{i:Nat}{os:List bI}{keep:c9}{k:cH}{S:St} :
  eb L (⟨some d,.ext x i,some (g,w)⟩::os) keep k S=cN (jo (look g S.env) w (match S.ev x with|some (.tuple vs)=>vs[i]? | _=>none)) (kb L d S os keep k):=by
 rw[iy];refine nz ?_;simp only[VO.run]
 repeat' split
 all_goals (first|rfl|simp_all[St.put])
@[simp] theorem alJ{L:bC}{d g:Nat}{w:Bool}{n:Nat}{z:Option Nat}{x:bB}{os:List bI}{keep:c9}{k:cH}{S:St} :
  eb L (⟨some d,.field n z x,some (g,w)⟩::os) keep k S=cN (jo (look g S.env) w (match S.ev x with|some (.agg cs)=>loadAt z cs n|_=>none)) (kb L d S os keep k):=by
 rw[iy];refine nz ?_;simp only[VO.run]
 repeat' split
 all_goals (first|rfl|simp_all[St.put])
@[simp] theorem alK{L:bC}{d g:Nat}{w:Bool}{m:Bool}{x y:bB}{os:List bI}{keep:c9}{k:cH}{S:St} :
  eb L (⟨some d,.mm m x y,some (g,w)⟩::os) keep k S=cN (jo (look g S.env) w (match S.ev x,S.ev y with|some (.int k a),some (.int _ b)=>some (.int k (bif m then max a b else min a b))|_,_=>none)) (kb L d S os keep k):=by
 rw[iy];refine nz ?_;simp only[VO.run];rcases S.ev x with _|a
 ·rfl
 ·rcases S.ev y with _|b
  ·cases a<;>rfl
  ·cases a<;>cases b<;>rfl
@[simp] theorem alL{L:bC}{d g:Nat}{w:Bool}{m:Bool}{x y z:bB}{os:List bI}{keep:c9}{k:cH}{S:St} :
  eb L (⟨some d,.rR m x y z,some (g,w)⟩::os) keep k S=cN (jo (look g S.env) w (match S.ev x,S.ev y,S.ev z with|some (.int k a),some (.int _ b),some (.int _ c)=>some (.int k (bif m then max (max a b) c else min (min a b) c))|_,_,_=>none)) (kb L d S os keep k):=by
 rw[iy];refine nz ?_;simp only[VO.run];rcases S.ev x with _|a
 ·rfl
 ·rcases S.ev y with _|b
  ·cases a<;>rfl
  ·rcases S.ev z with _|c
   ·cases a<;>cases b<;>rfl
   ·cases a<;>cases b<;>cases c<;>rfl
@[simp] theorem alM{L:bC}{d g:Nat}{w:Bool}{n z:Nat}{a:Bool}{x i:bB}{os:List bI}{keep:c9}{k:cH}{S:St} :
  eb L (⟨some d,.idx n z a x i,some (g,w)⟩::os) keep k S=cN (jo (look g S.env) w (match S.ev x,S.ev i with|some (.agg cs),some (.int _ k)=>bif decide (0≤k)&&decide (k<n) then loadAt (bif a then some z else none) cs (k.toNat*z) else none|_,_=>none)) (kb L d S os keep k):=by
 rw[iy];refine nz ?_;simp only[VO.run];rcases S.ev x with _|v
 ·rfl
 ·rcases S.ev i with _|j
  ·cases v<;>rfl
  ·cases v with
   |agg cs =>
    cases j with
    |int kk m =>
     simp only;cases (decide (0≤m)&&decide (m<n)) with
     |false=>rfl
     |true =>
      simp only[cond_true];rcases loadAt (bif a then some z else none) cs (m.toNat*z) with _|u<;>rfl
    |_=>rfl
   |_=>cases j<;>rfl
@[simp] theorem alN{L:bC}{d g:Nat}{w:Bool}{n:Nat}{x i:bB}{os:List bI}{keep:c9}{k:cH}{S:St} :
  eb L (⟨some d,.eg none n x i,some (g,w)⟩::os) keep k S=cN (jo (look g S.env) w (match S.ev x,S.ev i with
   |some (.slice _ m es),some (.int _ k)=>bif decide (0≤k)&&(m==n) then (match es[k.toNat]? with|some r=>some (.fa r 0)|none=>none) else none
   |some (.cb id off ln),some (.int _ k)=>bif decide (0≤k)&&decide (k<ln)&&(off==n) then some (.bK id (k.toNat*n)) else none
   |some (.dB id off ln),some (.int _ k)=>bif decide (0≤k)&&decide (k<ln)&&(off==n) then some (.bO id (k.toNat*n)) else none
   |_,_=>none)) (kb L d S os keep k):=by
 rw[iy];refine nz ?_;simp only[VO.run];rcases S.ev x with _|v
 ·rfl
 ·rcases S.ev i with _|j
  ·cases v<;>rfl
  ·cases v with
   |slice t m es =>
    cases j with
    |int kk q =>
     simp only;cases (decide (0≤q)&&(m==n)) with
     |false=>rfl
     |true =>
      simp only[cond_true];rcases es[q.toNat]? with _|u<;>rfl
    |_=>rfl
   |cb id off ln =>
    cases j with
    |int kk q =>
     simp only;cases (decide (0≤q)&&decide (q<ln)&&(off==n)) with
     |false=>rfl
     |true=>rfl
    |_=>rfl
   |dB id off ln =>
    cases j with
    |int kk q =>
     simp only;cases (decide (0≤q)&&decide (q<ln)&&(off==n)) with
     |false=>rfl
     |true=>rfl
    |_=>rfl
   |_=>cases j<;>rfl
def nth{α:Type}[Inhabited α](l:List α)(i:Nat):α:=l.getD i default
theorem bo{α:Type}[Inhabited α]{l:List α}{i:Nat}(h:i<l.length):l[i]?=some (nth l i):=by
 simp[nth,List.getD,h]
theorem eA{l:List Int}{i:Nat}(h:i<l.length):l[i]?=some (nth l i):=bo h
def lk{α:Type}(b:Bool)(v:α)(s:Nat)(r:List (Nat×α)):Option α:=bif b then some v else look s r
@[simp] theorem alO{α:Type}{s k:Nat}{v:α}{r:List (Nat×α)}:look s ((k,v)::r)=lk (k==s) v s r:=rfl
@[simp] theorem alP{α:Type}{s:Nat}:look s ([]:List (Nat×α))=none:=rfl
@[simp] theorem alQ{α:Type}{s:Nat}{v:α}{r:List (Nat×α)}:lk true v s r=some v:=rfl
@[simp] theorem alR{α:Type}{s:Nat}{v:α}{r:List (Nat×α)}:lk false v s r=look s r:=rfl
def tA{α:Type}(d:Nat)(l:List (Nat×α)):List (Nat×α):=l.filter fun p => !(p.1==d)
def FO{α:Type}(b:Bool)(k:Nat)(v:α)(r:List (Nat×α)):List (Nat×α):=bif b then r else (k,v)::r
@[simp] theorem alS{α:Type}{k:Nat}{v:α}{r:List (Nat×α)}:FO true k v r=r:=rfl
@[simp] theorem alT{α:Type}{k:Nat}{v:α}{r:List (Nat×α)}:FO false k v r=(k,v)::r:=rfl
@[simp] theorem alU{α:Type}{d:Nat}:tA d ([]:List (Nat×α))=[]:=rfl
@[simp] theorem alV{α:Type}{d k:Nat}{v:α}{r:List (Nat×α)}:tA d ((k,v)::r)=FO (k==d) k v (tA d r):=by
 unfold tA FO;cases h:k==d<;>simp[List.filter,h]
@[simp] theorem alW{α:Type}{d:Nat}{l:List (Nat×α)}:(l.filter fun p => !(p.1==d))=tA d l:=rfl
@[simp] theorem alX{S:St}:S.clean []=some S:=rfl
@[simp] theorem alY{S:St}{d:Nat}{ds:List Nat}:S.clean (d::ds)=bif ((tA d S.env).all fun p => !p.2.cu d)&&((tA d S.bb).all fun p=>p.2.all fun v => !v.cI d) then
  St.clean { env:=tA d S.env,bb:=tA d S.bb,bm:=tA d S.bm,az:=S.az } ds else none:=rfl
theorem C4{α β:Type}{a:α}{b:β}{k:α→β→Prop}:(∃e T,(a=e∧b=T)∧k e T)↔k a b :=
 ⟨fun⟨_,_,⟨h,h'⟩,hk⟩=>by subst h;subst h';exact hk,fun h=>⟨_,_,⟨rfl,rfl⟩,h⟩⟩
def Qf(L:bC)(ids:List Nat)(os:List bI)(keep:c9)(k:cH):St→Prop:=fun S=>cN (S.clean ids) (eb L os keep k)
@[simp] theorem Y6{L:bC}{ids:List Nat}{os:List bI}{keep:c9}{k:cH}{S:St}:Qf L ids os keep k S=cN (S.clean ids) (eb L os keep k):=rfl
@[simp] theorem alZ{L:bC}{gh:List iO}{S:St}{k:cH}:go L (.ue gh) S k=cN (mI gh S) (k .ret):=by
 refine propext ⟨?_,?_⟩
 ·rintro⟨n,e,T,h,hk⟩
  simp only[VC.run]at h;split at h
  ·rename_i S' h1;cases h;exact⟨_,h1,hk⟩
  ·cases h
 ·rintro⟨S',h1,hk⟩
  exact⟨0,_,_,by simp only[VC.run,h1],hk⟩
@[simp] theorem al0{L:bC}{S:St}{k:cH}:go L .dead S k=False:=by simp[go,VC.run,C4]
@[simp] theorem go_skip{L:bC}{S:St}{k:cH}:go L .skip S k=k .normal S:=by simp[go,VC.run,C4]
@[simp] theorem al1{L:bC}{S:St}{k:cH}{i:Nat}:go L (.exit i) S k=k (.exit i) S:=by simp[go,VC.run,C4]
@[simp] theorem go_ret{L:bC}{S:St}{k:cH}:go L .ret S k=k .ret S:=by simp[go,VC.run,C4]
@[simp] theorem go_region{L:bC}{gh:List iO}{ids:List Nat}{os:List bI}{keep:c9}{S:St}{k:cH} :
  go L (.region gh ids os keep) S k=cN (mI gh S) (Qf L ids os keep k):=by
 unfold go cN;simp only[VC.run,Y6];cases mI gh S with
 |none=>simp
 |some S1 =>
  simp only[Option.some.injEq,exists_eq_left',cN];cases S1.clean ids with
  |none=>simp
  |some S2 =>
   simp only[Option.some.injEq,exists_eq_left',eb];cases gO L os S2 with
   |none=>simp
   |some S3=>simp[C4]
@[simp] theorem al2{L:bC}{a b:VC}{S:St}{k:cH}:go L (.seq a b) S k=go L a S (sq L b k):=by
 refine propext ⟨?_,?_⟩
 ·rintro⟨n,e,T,h,hk⟩
  simp only[VC.run]at h;split at h
  ·rename_i S' h1;exact⟨n,_,_,h1,n,_,_,h,hk⟩
  ·rename_i i S' h1;cases h;exact⟨n,_,_,h1,hk⟩
  ·rename_i S' h1;cases h;exact⟨n,_,_,h1,hk⟩
  ·cases h
 ·rintro⟨n,e,T,h,hk⟩
  cases e with
  |normal =>
   obtain⟨m,e,T',h',hk⟩:=hk;refine⟨n+m,e,T',?_,hk⟩;simp only[VC.run,uG (Nat.le_add_right n m) h,uG (Nat.le_add_left m n) h']
  |exit i=>exact⟨n,_,_,by simp only[VC.run,h],hk⟩
  |ret=>exact⟨n,_,_,by simp only[VC.run,h],hk⟩
@[simp] theorem al3{L:bC}{c:bB}{a b:VC}{S:St}{k:cH}:go L (.cond c a b) S k=sy (S.ev c) (go L a S k) (go L b S k):=by
 refine propext ⟨?_,?_⟩
 ·rintro⟨n,e,T,h,hk⟩
  simp only[VC.run]at h;split at h
  ·rename_i t hc
   refine⟨t,hc,?_⟩;cases t with
   |true=>exact⟨n,e,T,h,hk⟩
   |false=>exact⟨n,e,T,h,hk⟩
  ·cases h
 ·rintro⟨t,hc,h⟩
  cases t with
  |true=>obtain⟨n,e,T,h,hk⟩:=h;exact⟨n,e,T,by simp only[VC.run,hc,cond_true];exact h,hk⟩
  |false=>obtain⟨n,e,T,h,hk⟩:=h;exact⟨n,e,T,by simp only[VC.run,hc,cond_false];exact h,hk⟩
@[simp] theorem al4{L:bC}{id:Nat}{a:VC}{S:St}{k:cH}:go L (.block id a) S k=go L a S (bk id k):=by
 refine propext ⟨?_,?_⟩
 ·rintro⟨n,e,T,h,hk⟩
  simp only[VC.run]at h;split at h
  ·rename_i S' h1;cases h;exact⟨n,_,_,h1,hk⟩
  ·rename_i i S' h1
   refine⟨n,_,_,h1,?_⟩;cases hi:i==id with
   |true=>simp only[hi,cond_true]at h;cases h;simp only[bk,hi,cond_true];exact hk
   |false=>simp only[hi,cond_false]at h;cases h;simp only[bk,hi,cond_false];exact hk
  ·rename_i S' h1;cases h;exact⟨n,_,_,h1,hk⟩
  ·cases h
 ·rintro⟨n,e,T,h,hk⟩
  cases e with
  |normal=>exact⟨n,_,_,by simp only[VC.run,h],hk⟩
  |exit i =>
   cases hi:i==id with
   |true=>simp only[bk,hi,cond_true]at hk;exact⟨n,_,_,by simp only[VC.run,h,hi,cond_true],hk⟩
   |false=>simp only[bk,hi,cond_false]at hk;exact⟨n,_,_,by simp only[VC.run,h,hi,cond_false],hk⟩
  |ret=>exact⟨n,_,_,by simp only[VC.run,h],hk⟩
def FP{α:Type}(keep:c9)(st:α→St)(I:α→Prop)(mu:α→Nat)(m:Nat)(k:cH):cH:=fun e T=>match e with
 |.normal=>∃y,T.keep keep=st y∧I y∧mu y<m
 |.exit i=>k (.exit i) T
 |.ret=>k .ret T
@[simp] theorem al5{α:Type}{keep:c9}{st:α→St}{I:α→Prop}{mu:α→Nat}{m:Nat}{k:cH}{T:St}{i:Nat}:FP keep st I mu m k (.exit i) T=k (.exit i) T:=rfl
@[simp] theorem al6{α:Type}{keep:c9}{st:α→St}{I:α→Prop}{mu:α→Nat}{m:Nat}{k:cH}{T:St}:FP keep st I mu m k .ret T=k .ret T:=rfl
theorem cc{α:Type}{keep:c9}{st:α→St}{I:α→Prop}{mu:α→Nat}{m:Nat}{k:cH}{T:St}(y:α)(h:T.keep keep=st y)(hi:I y)(hm:mu y<m):FP keep st I mu m k .normal T:=⟨y,h,hi,hm⟩
theorem go_loop{α:Type}{L:bC}{c:VC}{gh:List iO}{keep:c9}{a:VC}{k:cH}{S:St}(st:α→St)(I:α→Prop)(mu:α→Nat)(x:α)(hc:c=.loop gh keep a)(hS:cN (mI gh S) fun S=>S.keep keep=st x)(hI:I x)
  (step:∀x,I x→go L a (st x) (FP keep st I mu (mu x) k)):go L c S k:=by
 subst hc;obtain⟨S1,hg,hS⟩:=hS
 suffices h:∀m x S,S.keep keep=st x→mu x<m→I x→∃n e T,iter (fun S=>VC.run L n a (S.keep keep)) n S=some (e,T)∧k e T by
  obtain⟨n,e,T,h1,h2⟩:=h (mu x+1) x S1 hS (by omega) hI
  exact⟨n,e,T,by simp only[VC.run,hg];exact h1,h2⟩
 intro m;induction m with
 |zero=>intro x S _ h;omega
 |succ m ih =>
  intro x S hS hm hI;obtain⟨n,e,T,h1,h2⟩:=step x hI;rw[←hS]at h1;cases e with
  |normal =>
   obtain⟨y,hT,hy,bG⟩:=h2;obtain⟨n',e,T,h3,h4⟩:=ih y T hT (by omega) hy
   refine⟨n+n'+1,e,T,?_,h4⟩;simp only[iter];rw[uG (by omega) h1]
   exact CX (fun S x h=>uG (by omega) h) (by omega) h3
  |exit i=>exact⟨n+1,_,_,by simp only[iter];rw[uG (by omega) h1],h2⟩
  |ret=>exact⟨n+1,_,_,by simp only[iter];rw[uG (by omega) h1],h2⟩
def jq(L:bC)(f:FuncId)(args:List V)(G:List aW)(Q:V→List aW→Prop):Prop:=∃r G',L f args G=some (r,G')∧Q r G'
def vy(rs:List qX)(Q:V→List aW→Prop):cH:=fun e T=>match e with
 |.normal=>cN (s9 T rs) fun v=>Q v T.az
 |.ret=>cN (s9 T rs) fun v=>Q v T.az
 |.exit _=>False
@[simp] theorem al7{rs:List qX}{Q:V→List aW→Prop}{T:St}:vy rs Q .normal T=cN (s9 T rs) fun v=>Q v T.az:=rfl
@[simp] theorem al8{rs:List qX}{Q:V→List aW→Prop}{T:St}:vy rs Q .ret T=cN (s9 T rs) fun v=>Q v T.az:=rfl
theorem jV{F:FuncId→Option bq}{f:FuncId}{vf:bq}(hf:F f=some vf){args:List V}{G:List aW}{Q:V→List aW→Prop}(hl:(args.length==vf.nparams&&vf.defs.isEmpty&&vf.split.isNone)=true)
  (h:go (bt F) vf.body { env:=oA 0 args,bb:=[],bm:=[],az:=G } (vy vf.results Q)):jq (bt F) f args G Q:=by
 simp only[Bool.and_eq_true,List.isEmpty_iff,Option.isNone_iff_eq_none]at hl;obtain⟨⟨hl,hd⟩,hs⟩:=hl;obtain⟨n,e,T,h1,h2⟩:=h;cases e with
 |exit i=>exact h2.elim
 |normal =>
  obtain⟨v,h3,h4⟩:=h2;exact⟨v,T.az,P3 hf (n:=n) hd hs (by simp only[bq.call,hl,cond_true,h1,h3]),h4⟩
 |ret =>
  obtain⟨v,h3,h4⟩:=h2;exact⟨v,T.az,P3 hf (n:=n) hd hs (by simp only[bq.call,hl,cond_true,h1,h3]),h4⟩
theorem Y7{F:FuncId→Option bq}{f:FuncId}{vf:bq}(hf:F f=some vf){i off:Nat}{G:List aW}{Q:V→List aW→Prop}(hl:(1==vf.nparams && !vf.defs.isEmpty&&vf.split.isNone)=true)
  (h:go (bt F) vf.body { env:=oA 0 [.bO i off],bb:=[],bm:=[],az:=G } (vy vf.results fun _ G1=>∃G2,oB (bt F) [.bO i off] vf.defs.reverse G1=some G2∧Q (.tuple []) G2)):jq (bt F) f [.bO i off] G Q:=by
 simp only[Bool.and_eq_true,Bool.not_eq_true',List.isEmpty_eq_false_iff,Option.isNone_iff_eq_none]at hl;obtain⟨⟨hl,hd⟩,hs⟩:=hl;obtain⟨n,e,T,h1,h2⟩:=h;cases e with
 |exit i=>exact h2.elim
 |normal =>
  obtain⟨v,h3,G2,h4,h5⟩:=h2;exact⟨_,G2,P5 hf (n:=n) hd hs (r:=v) (by simp only[bq.call,List.length_singleton,hl,cond_true,h1,h3]) h4,h5⟩
 |ret =>
  obtain⟨v,h3,G2,h4,h5⟩:=h2;exact⟨_,G2,P5 hf (n:=n) hd hs (r:=v) (by simp only[bq.call,List.length_singleton,hl,cond_true,h1,h3]) h4,h5⟩
theorem cg{F:FuncId→Option bq}{f:FuncId}{vf:bq}(hf:F f=some vf){args:List V}{G G':List aW}{r:V}(hl:(args.length==vf.nparams&&vf.defs.isEmpty&&vf.split.isNone)=true)
  (h:go (bt F) vf.body { env:=oA 0 args,bb:=[],bm:=[],az:=G } (vy vf.results fun v G1=>v=r∧G1=G')):bt F f args G=some (r,G'):=by
 obtain⟨_,_,h1,rfl,rfl⟩:=jV hf hl h;exact h1
theorem JV{F:FuncId→Option bq}{f:FuncId}{vf:bq}(hf:F f=some vf){args:List V}{G G':List aW}{r:V}{p m:Nat}(hl:(args.length==vf.nparams&&vf.defs.isEmpty)=true)(hs:vf.split=some p)(hp:args[p]?=some (.slice none m []))
  (h:go (bt F) vf.body { env:=oA 0 (args.set p .aK),bb:=[],bm:=[],az:=G } (vy vf.results fun v G1=>v=r∧G1=G'))
  (h':go (bt F) vf.body { env:=oA 0 (args.set p (.fD m)),bb:=[],bm:=[],az:=G } (vy vf.results fun v G1=>v=r∧G1=G')):bt F f args G=some (r,G'):=by
 simp only[Bool.and_eq_true,List.isEmpty_iff]at hl;obtain⟨hl,hd⟩:=hl;have key:∀u,go (bt F) vf.body { env:=oA 0 (args.set p u),bb:=[],bm:=[],az:=G } (vy vf.results fun v G1=>v=r∧G1=G')→∃n,vf.call (bt F) n (args.set p u) G=some (r,G'):=fun u h=>by
  obtain⟨n,e,T,h1,h2⟩:=h;have Qg:((args.set p u).length==vf.nparams)=true:=by rw[List.length_set];exact hl
  cases e with
  |exit i=>exact h2.elim
  |normal =>
   obtain⟨v,h3,rfl,rfl⟩:=h2;exact⟨n,by simp only[bq.call,Qg,cond_true,h1,h3]⟩
  |ret =>
   obtain⟨v,h3,rfl,rfl⟩:=h2;exact⟨n,by simp only[bq.call,Qg,cond_true,h1,h3]⟩
 obtain⟨n,h1⟩:=key _ h;obtain⟨k,h2⟩:=key _ h';exact YW hf hd hs hp h1 h2
theorem JW{F:FuncId→Option bq}{f:FuncId}{vf:bq}(hf:F f=some vf){args:List V}{G G':List aW}{r:V}{p:Nat}(hl:(args.length==vf.nparams&&vf.defs.isEmpty)=true)(hs:vf.split=some p)(hp:∀m,args[p]?≠some (.slice none m []))
  (h:go (bt F) vf.body { env:=oA 0 args,bb:=[],bm:=[],az:=G } (vy vf.results fun v G1=>v=r∧G1=G')):bt F f args G=some (r,G'):=by
 simp only[Bool.and_eq_true,List.isEmpty_iff]at hl;obtain⟨hl,hd⟩:=hl;obtain⟨n,e,T,h1,h2⟩:=h;cases e with
 |exit i=>exact h2.elim
 |normal =>
  obtain⟨v,h3,rfl,rfl⟩:=h2;exact P4 hf (n:=n) hd hs hp (by simp only[bq.call,hl,cond_true,h1,h3])
 |ret =>
  obtain⟨v,h3,rfl,rfl⟩:=h2;exact P4 hf (n:=n) hd hs hp (by simp only[bq.call,hl,cond_true,h1,h3])
abbrev i64(n:Int):V:=.int .i64 n
theorem wrap64{n:Int}(h1:-9223372036854775808≤n)(h2:n≤9223372036854775807):IntKind.i64.wrap n=n:=by
 simp[IntKind.wrap,IntKind.bits,IntKind.signed];omega
def rep{α:Type}(n:Nat)(x:α):List α:=List.replicate n x
@[simp] theorem al9{α:Type}{n:Nat}{x:α}:(rep n x).length=n:=by simp[rep]
def eW(n:Nat)(f:Nat→Int):List V:=(List.range n).map fun j=>.int .i64 (f j)
@[simp] theorem ama{n:Nat}{f:Nat→Int}:(eW n f).length=n:=by simp[eW]
theorem JX{n:Nat}{f g:Nat→Int}(h:∀j,j<n→f j=g j):eW n f=eW n g:=by
 unfold eW;apply List.map_congr_left;intro j hj;rw[h j (by simpa using hj)]
theorem oc{n:Nat}{f:Nat→Int}{i:Nat}(h:i<n):(eW n f)[i]?=some (.int .i64 (f i)):=by simp[eW,h]
@[simp] theorem amb{n:Nat}{f:Nat→Int}{i:Nat}{v:Int}:(eW n f).set i (.int .i64 v)=eW n fun j=>if j=i then v else f j:=by
 apply List.ext_getElem?;intro k;by_cases hk:k<n
 ·by_cases h:i=k
  ·subst h
   rw[List.getElem?_set_self (by simpa using hk),oc hk]
   simp
  ·rw[List.getElem?_set_ne h,oc hk,oc hk,if_neg (fun e=>h e.symm)]
 ·rw[List.getElem?_eq_none (by simp;omega),List.getElem?_eq_none (by simp;omega)]
@[simp] theorem amc{n:Nat}{f:Nat→Int}:(eW n f).all V.cM=true:=by
 simp[eW,V.cM]
@[simp] theorem amd{n:Nat}{f:Nat→Int}{d:Nat}:(eW n f).all (fun v => !v.cI d)=true:=by
 simp[eW,V.cI]
@[simp] theorem ame{n:Nat}{f:Nat→Int}:(eW n f).all V.iw=true:=by
 simp[eW,V.iw,V.plain]
@[simp] theorem amf{n:Nat}{f:Nat→Int}:(eW n f).map gX=eW n f:=by
 simp[eW,gX]
@[simp] theorem amg{n:Nat}{f:Nat→Int}:(eW n f).map strip=eW n f:=by
 simp[eW,strip,gX]
@[simp] theorem amh{n:Nat}{f:Nat→Int}{d:Nat}:(eW n f).any (V.cI d)=false:=by
 simp[eW,V.cI]
@[simp] theorem Y8{n:Nat}{f:Nat→Int}:(eW n f).take n=eW n f:=List.take_of_length_le (by simp)
theorem Qh{S:St}{used:List Nat}{α:Type}(g:α→Int):∀l:List α,mg S (List.replicate l.length none) used (l.map fun j=>.int .i64 (g j))=some (l.map fun j=>.int .i64 (g j),used)
 |[]=>rfl
 |a::l=>by simp[List.replicate_succ,mg,wC,ox,el,Qh g l]
@[simp] theorem ami{S:St}{used:List Nat}{n:Nat}{f:Nat→Int}:mg S (rep n none) used (eW n f)=some (eW n f,used):=by
 unfold rep;have:=Qh (S:=S) (used:=used) f (List.range n)
 rwa [List.length_range]at this
@[simp] theorem Qi{n:Nat}:rep n (V.int .i64 0)=eW n fun _=>0:=by
 simp[rep,eW,List.map_const']
theorem Qj:∀(cs:List V) (off:Nat) (vs:List V),off+vs.length≤cs.length→iZ cs off vs=cs.take off++vs++cs.drop (off+vs.length)
 |cs,off,[],h=>by simp[iZ]
 |cs,off,v::vs,h=>by
  simp only[List.length_cons]at h;rw[iZ,Qj _ _ _ (by simp;omega)]
  apply List.ext_getElem?;intro i;simp only[List.length_cons,List.getElem?_append,List.length_take,List.length_append,List.length_set,List.getElem?_take,List.getElem?_set,List.getElem?_drop,List.getElem?_cons];rcases Nat.lt_trichotomy i off with h1|h1|h1
  ·simp (disch:=omega) [h1,if_pos,if_neg]
  ·subst h1
   grind
  ·grind
theorem Y9{cs vs:List V}(h:vs.length=cs.length):iZ cs 0 vs=vs:=by
 rw[Qj _ _ _ (by omega)]
 simp[h]
@[simp] theorem amj{n:Nat}{f g:Nat→Int}:iZ (eW n f) 0 (eW n g)=eW n g:=Y9 (by simp)
@[simp] theorem sm0{d:Nat} :
  V.cI d .undef=false ∧
  V.dC d .undef=false ∧
  V.cu d .undef=false ∧
  V.cI d .aK=false ∧
  V.dC d .aK=false ∧
  V.cu d .aK=false ∧
  V.cI d .fU=false ∧
  V.dC d .fU=false ∧
  V.cu d .fU=false ∧
  V.cI d .fP=false ∧
  V.dC d .fP=false ∧
  V.cu d .fP=false ∧
  V.cI d .fV=false ∧
  V.dC d .fV=false ∧
  V.cu d .fV=false:=by and_intros<;>rfl
@[simp] theorem sm1  :
  V.cM .undef=false ∧
  V.cells .undef=[.undef] ∧
  V.plain .undef=false ∧
  V.iw .undef=false ∧
  V.iH .undef=false ∧
  V.lone .undef=false ∧
  gX .undef=.undef ∧
  strip .undef=.undef ∧
  V.cM .aK=true ∧
  V.cells .aK=[.aK] ∧
  V.plain .aK=true ∧
  V.iw .aK=true ∧
  V.iH .aK=true ∧
  V.lone .aK=true ∧
  gX .aK=.aK ∧
  strip .aK=.aK ∧
  V.cM .fU=true ∧
  V.cells .fU=[.fU] ∧
  V.plain .fU=false ∧
  V.iw .fU=false ∧
  V.iH .fU=false ∧
  V.lone .fU=false ∧
  gX .fU=.fU ∧
  strip .fU=.fU ∧
  V.cM .fP=true ∧
  V.cells .fP=[.fP] ∧
  V.plain .fP=false ∧
  V.iw .fP=false ∧
  V.iH .fP=false ∧
  V.lone .fP=false ∧
  gX .fP=.fP ∧
  strip .fP=.fP ∧
  V.cM .fV=true ∧
  V.cells .fV=[.fV] ∧
  V.plain .fV=false ∧
  V.iw .fV=false ∧
  V.iH .fV=false ∧
  V.lone .fV=false ∧
  gX .fV=.fV ∧
  strip .fV=.fV ∧
  V.j7 .aK=.aK ∧
  V.kF .aK=.aK ∧
  V.j7 .fU=.fU ∧
  V.kF .fU=.fU ∧
  V.j7 .fP=.fP ∧
  V.kF .fP=.fP ∧
  V.j7 .fV=.fV ∧
  V.kF .fV=.fV:=by and_intros<;>rfl
@[simp] theorem sm2{k:IntKind}{n:Int}{d:Nat} :
  V.cI d (.int k n)=false ∧
  V.dC d (.int k n)=false ∧
  V.cu d (.int k n)=false:=by and_intros<;>rfl
@[simp] theorem sm3{k:IntKind}{n:Int} :
  V.cM (.int k n)=true ∧
  V.cells (.int k n)=[.int k n] ∧
  V.plain (.int k n)=true ∧
  V.iw (.int k n)=true ∧
  V.iH (.int k n)=true ∧
  V.lone (.int k n)=true ∧
  gX (.int k n)=.int k n ∧
  strip (.int k n)=.int k n ∧
  V.j7 (.int k n)=.int k n ∧
  V.kF (.int k n)=.int k n:=by and_intros<;>rfl
@[simp] theorem sm4{b:Bool}{d:Nat} :
  V.cI d (.bool b)=false ∧
  V.dC d (.bool b)=false ∧
  V.cu d (.bool b)=false:=by and_intros<;>rfl
@[simp] theorem sm5{b:Bool} :
  V.cM (.bool b)=true ∧
  V.cells (.bool b)=[.bool b] ∧
  V.plain (.bool b)=true ∧
  V.iw (.bool b)=true ∧
  V.iH (.bool b)=true ∧
  V.lone (.bool b)=true ∧
  gX (.bool b)=.bool b ∧
  strip (.bool b)=.bool b ∧
  V.j7 (.bool b)=.bool b ∧
  V.kF (.bool b)=.bool b:=by and_intros<;>rfl
@[simp] theorem sm6{s:List UInt8}{d:Nat} :
  V.cI d (.str s)=false ∧
  V.dC d (.str s)=false ∧
  V.cu d (.str s)=false:=by and_intros<;>rfl
@[simp] theorem sm7{s:List UInt8} :
  V.cM (.str s)=true ∧
  V.cells (.str s)=[.str s] ∧
  V.plain (.str s)=true ∧
  V.iw (.str s)=true ∧
  V.iH (.str s)=true ∧
  V.lone (.str s)=true ∧
  gX (.str s)=.str s ∧
  strip (.str s)=.str s ∧
  V.j7 (.str s)=.str s ∧
  V.kF (.str s)=.str s:=by and_intros<;>rfl
@[simp] theorem sm8{z:Nat}{es:List (List V)}{d:Nat} :
  V.cI d (.slice none z es)=false ∧
  V.dC d (.slice none z es)=false ∧
  V.cu d (.slice none z es)=false:=by and_intros<;>rfl
@[simp] theorem sm9{z:Nat}{es:List (List V)} :
  V.cM (.slice none z es)=true ∧
  V.cells (.slice none z es)=[.slice none z es] ∧
  V.plain (.slice none z es)=true ∧
  V.iw (.slice none z es)=true ∧
  V.iH (.slice none z es)=true ∧
  V.lone (.slice none z es)=true ∧
  gX (.slice none z es)=.slice none z es ∧
  strip (.slice none z es)=.slice none z es:=by and_intros<;>rfl
@[simp] theorem amu{t z:Nat}{es:List (List V)}{d:Nat} :
  V.cI d (.slice (some t) z es:V)=(t==d) ∧
  V.dC d (.slice (some t) z es:V)=(t==d) ∧
  V.cu d (.slice (some t) z es:V)=(t==d):=by and_intros<;>rfl
@[simp] theorem amv{t z:Nat}{es:List (List V)} :
  V.cM (.slice (some t) z es:V)=true ∧
  V.cells (.slice (some t) z es:V)=[.slice (some t) z es] ∧
  V.plain (.slice (some t) z es:V)=false ∧
  V.iw (.slice (some t) z es:V)=true ∧
  V.iH (.slice (some t) z es:V)=true ∧
  V.lone (.slice (some t) z es:V)=true ∧
  gX (.slice (some t) z es:V)=.slice none z es ∧
  strip (.slice (some t) z es:V)=.slice none z es:=by and_intros<;>rfl
@[simp] theorem amw{cs:List V}{d:Nat} :
  V.cI d (.agg cs)=true ∧
  V.dC d (.agg cs)=cs.any (V.cI d) ∧
  V.cu d (.agg cs)=cs.any (V.cI d):=by and_intros<;>rfl
@[simp] theorem amx{cs:List V} :
  V.cM (.agg cs)=false ∧
  V.cells (.agg cs)=cs ∧
  V.plain (.agg cs)=false ∧
  V.iw (.agg cs)=false ∧
  V.iH (.agg cs)=cs.all V.iw ∧
  V.lone (.agg cs)=cs.all V.iw ∧
  gX (.agg cs)=.agg cs ∧
  strip (.agg cs)=.agg (cs.map gX) ∧
  V.kF (.agg cs)=.agg (cs.map V.j7):=by and_intros<;>rfl
@[simp] theorem amy{vs:List V}{d:Nat} :
  V.cI d (.tuple vs)=true ∧
  V.dC d (.tuple vs)=true ∧
  V.cu d (.tuple vs)=vs.any (V.dC d):=by and_intros<;>rfl
@[simp] theorem amz{vs:List V} :
  V.cM (.tuple vs)=false ∧
  V.cells (.tuple vs)=[.tuple vs] ∧
  V.plain (.tuple vs)=false ∧
  V.iw (.tuple vs)=false ∧
  V.iH (.tuple vs)=false ∧
  V.lone (.tuple vs)=vs.all V.iH ∧
  gX (.tuple vs)=.tuple vs ∧
  strip (.tuple vs)=.tuple vs:=by and_intros<;>rfl
@[simp] theorem amA{r:List V}{o:Nat}{d:Nat} :
  V.cI d (.fa r o)=false ∧
  V.dC d (.fa r o)=false ∧
  V.cu d (.fa r o)=false:=by and_intros<;>rfl
@[simp] theorem amB{r:List V}{o:Nat} :
  V.cM (.fa r o)=true ∧
  V.cells (.fa r o)=[.fa r o] ∧
  V.plain (.fa r o)=false ∧
  V.iw (.fa r o)=false ∧
  V.iH (.fa r o)=false ∧
  V.lone (.fa r o)=false ∧
  gX (.fa r o)=.fa r o ∧
  strip (.fa r o)=.fa r o:=by and_intros<;>rfl
@[simp] theorem amC{i o:Nat}{d:Nat} :
  V.cI d (.bK i o)=(i==d) ∧
  V.dC d (.bK i o)=(i==d) ∧
  V.cu d (.bK i o)=(i==d) ∧
  V.cI d (.bO i o)=false ∧
  V.dC d (.bO i o)=false ∧
  V.cu d (.bO i o)=false:=by and_intros<;>rfl
@[simp] theorem amD{i o:Nat} :
  V.cM (.bK i o)=true ∧
  V.cells (.bK i o)=[.bK i o] ∧
  V.plain (.bK i o)=false ∧
  V.iw (.bK i o)=false ∧
  V.iH (.bK i o)=false ∧
  V.lone (.bK i o)=false ∧
  gX (.bK i o)=.bK i o ∧
  strip (.bK i o)=.bK i o ∧
  V.cM (.bO i o)=true ∧
  V.cells (.bO i o)=[.bO i o] ∧
  V.plain (.bO i o)=false ∧
  V.iw (.bO i o)=false ∧
  V.iH (.bO i o)=false ∧
  V.lone (.bO i o)=false ∧
  gX (.bO i o)=.bO i o ∧
  strip (.bO i o)=.bO i o ∧
  V.j7 (.bO i o)=.bO i o ∧
  V.kF (.bO i o)=.bO i o:=by and_intros<;>rfl
@[simp] theorem amE{i o l:Nat}{d:Nat} :
  V.cI d (.cb i o l)=(i==d) ∧
  V.dC d (.cb i o l)=(i==d) ∧
  V.cu d (.cb i o l)=(i==d):=by and_intros<;>rfl
@[simp] theorem amF{i o l:Nat} :
  V.cM (.cb i o l)=true ∧
  V.cells (.cb i o l)=[.cb i o l] ∧
  V.plain (.cb i o l)=false ∧
  V.iw (.cb i o l)=false ∧
  V.iH (.cb i o l)=false ∧
  V.lone (.cb i o l)=false ∧
  gX (.cb i o l)=.cb i o l ∧
  strip (.cb i o l)=.cb i o l ∧
  V.j7 (.cb i o l)=.cb i o l ∧
  V.kF (.cb i o l)=.cb i o l:=by and_intros<;>rfl
@[simp] theorem amG{f:FuncId}{c:List V}{d:Nat} :
  V.cI d (.fn f c)=false ∧
  V.dC d (.fn f c)=false ∧
  V.cu d (.fn f c)=false:=by and_intros<;>rfl
@[simp] theorem amH{f:FuncId}{c:List V} :
  V.cM (.fn f c)=true ∧
  V.cells (.fn f c)=[.fn f c] ∧
  V.plain (.fn f c)=false ∧
  V.iw (.fn f c)=false ∧
  V.iH (.fn f c)=false ∧
  V.lone (.fn f c)=false ∧
  gX (.fn f c)=.fn f c ∧
  strip (.fn f c)=.fn f c ∧
  V.j7 (.fn f c)=.fn f c ∧
  V.kF (.fn f c)=.fn f c:=by and_intros<;>rfl
@[simp] theorem amI{i:Nat}{d:Nat} :
  V.cI d (.map i)=false ∧
  V.dC d (.map i)=false ∧
  V.cu d (.map i)=false:=by and_intros<;>rfl
@[simp] theorem amJ{i:Nat} :
  V.cM (.map i)=true ∧
  V.cells (.map i)=[.map i] ∧
  V.plain (.map i)=false ∧
  V.iw (.map i)=false ∧
  V.iH (.map i)=false ∧
  V.lone (.map i)=false ∧
  gX (.map i)=.map i ∧
  strip (.map i)=.map i ∧
  V.j7 (.map i)=.map i ∧
  V.kF (.map i)=.map i:=by and_intros<;>rfl
@[simp] theorem amK{n:Nat}{es:List (List V)}{d:Nat} :
  V.cI d (.fC n es)=false ∧
  V.dC d (.fC n es)=false ∧
  V.cu d (.fC n es)=false:=by and_intros<;>rfl
@[simp] theorem amL{n:Nat}{es:List (List V)} :
  V.cM (.fC n es)=true ∧
  V.cells (.fC n es)=[.fC n es] ∧
  V.plain (.fC n es)=false ∧
  V.iw (.fC n es)=false ∧
  V.iH (.fC n es)=false ∧
  V.lone (.fC n es)=false ∧
  gX (.fC n es)=.fC n es ∧
  strip (.fC n es)=.fC n es ∧
  V.j7 (.fC n es)=.slice none n es ∧
  V.kF (.fC n es)=.slice none n es:=by and_intros<;>rfl
@[simp] theorem amM{t:Option Nat}{n:Nat}{es:List (List V)} :
  V.j7 (.slice t n es)=.slice t n es ∧
  V.kF (.slice t n es)=.slice t n es:=by and_intros<;>rfl
@[simp] theorem amN{n:Nat}{d:Nat} :
  V.cI d (.dW n)=false ∧
  V.dC d (.dW n)=false ∧
  V.cu d (.dW n)=false ∧
  V.cI d (.fD n)=false ∧
  V.dC d (.fD n)=false ∧
  V.cu d (.fD n)=false:=by and_intros<;>rfl
@[simp] theorem amO{n:Nat} :
  V.cM (.dW n)=true ∧
  V.cells (.dW n)=[.dW n] ∧
  V.plain (.dW n)=false ∧
  V.iw (.dW n)=false ∧
  V.iH (.dW n)=false ∧
  V.lone (.dW n)=false ∧
  gX (.dW n)=.dW n ∧
  strip (.dW n)=.dW n ∧
  V.j7 (.dW n)=.dW n ∧
  V.kF (.dW n)=.dW n ∧
  V.cM (.fD n)=true ∧
  V.cells (.fD n)=[.fD n] ∧
  V.plain (.fD n)=false ∧
  V.iw (.fD n)=false ∧
  V.iH (.fD n)=false ∧
  V.lone (.fD n)=false ∧
  gX (.fD n)=.fD n ∧
  strip (.fD n)=.fD n ∧
  V.j7 (.fD n)=.fD n ∧
  V.kF (.fD n)=.fD n:=by and_intros<;>rfl
@[simp] theorem amP{t:Option Nat}{z:Nat}{es:List (List V)}:gX (.slice t z es:V)=.slice none z es:=by cases t<;>rfl
@[simp] theorem amQ{t:Option Nat}{z:Nat}{es:List (List V)}:strip (.slice t z es:V)=.slice none z es:=by cases t<;>rfl
@[simp] theorem amR{t:Option Nat}{z:Nat}{es:List (List V)}:V.iw (.slice t z es:V)=true:=by cases t<;>rfl
@[simp] theorem amS{t:Option Nat}{z:Nat}{es:List (List V)}:V.iH (.slice t z es:V)=true:=by cases t<;>rfl
@[simp] theorem amT{t:Option Nat}{z:Nat}{es:List (List V)}:V.lone (.slice t z es:V)=true:=by cases t<;>rfl
@[simp] theorem amU{t:Option Nat}{z:Nat}{es:List (List V)}:V.cM (.slice t z es:V)=true:=by cases t<;>rfl
@[simp] theorem amV{t:Option Nat}{z:Nat}{es:List (List V)}:V.cells (.slice t z es:V)=[.slice t z es]:=by cases t<;>rfl
@[simp] theorem amW{v:V}:xF .jk v=v:=rfl
@[simp] theorem amX{i:Nat}{v:V}:xF (.loc i) v=v:=rfl
@[simp] theorem amY{v:V}:xF .az v=v.kF:=rfl
def JY(L:bC)(d:Option Nat)(reg:List (Nat×Nat))(S:St)(os:List bI)(keep:c9)(k:cH):V×List aW→Prop:=fun r =>
 r.1.lone=true∧eb L os keep k ({ S with bm:=(recv reg r.1).2++S.bm }.put d (recv reg r.1).1)
@[simp] theorem Za{L:bC}{d:Option Nat}{reg:List (Nat×Nat)}{S:St}{os:List bI}{keep:c9}{k:cH}{r:V}{G:List aW} :
  JY L d reg S os keep k (r,G)=(r.lone=true∧eb L os keep k ({ S with bm:=(recv reg r).2++S.bm }.put d (recv reg r).1)):=rfl
def Qk(L:bC)(d:Option Nat)(g:FuncId)(reg:List (Nat×Nat))(S:St)(os:List bI)(keep:c9)(k:cH):List V→Prop:=fun vs=>cN (L g vs []) (JY L d reg S os keep k)
@[simp] theorem Zb{L:bC}{d:Option Nat}{g:FuncId}{reg:List (Nat×Nat)}{S:St}{os:List bI}{keep:c9}{k:cH}{vs:List V} :
  Qk L d g reg S os keep k vs=cN (L g vs []) (JY L d reg S os keep k):=rfl
@[simp high] theorem amZ{L:bC}{d:Option Nat}{g:FuncId}{args:List (Sh×bB)}{reg:List (Nat×Nat)}{os:List bI}{keep:c9}{k:cH}{S:St} :
  eb L (⟨d,.call true (.c (.fn g [])) args reg,none⟩::os) keep k S=cN (kh S args) (Qk L d g reg S os keep k):=by
 rw[iy];simp only[bI.run,VO.run,St.ev];cases kh S args with
 |none=>simp[cN]
 |some vs =>
  simp only[ry,Zb];rcases L g vs []with _ | ⟨r,G⟩
  ·simp[cN]
  ·simp only[ry,Za]
   cases r.lone<;>simp[cN]
def JZ(L:bC)(d:Option Nat)(reg:List (Nat×Nat))(S:St)(os:List bI)(keep:c9)(k:cH):V×List aW→Prop:=fun r =>
 eb L os keep k ({ S with az:=r.2,bm:=(recv reg r.1).2++S.bm }.put d (recv reg r.1).1)
@[simp] theorem am0{L:bC}{d:Option Nat}{reg:List (Nat×Nat)}{S:St}{os:List bI}{keep:c9}{k:cH}{r:V}{G:List aW} :
  JZ L d reg S os keep k (r,G)=eb L os keep k ({ S with az:=G,bm:=(recv reg r).2++S.bm }.put d (recv reg r).1):=rfl
def J0(L:bC)(d:Option Nat)(g:FuncId)(cap:List V)(reg:List (Nat×Nat))(S:St)(os:List bI)(keep:c9)(k:cH):List V→Prop:=fun vs=>cN (L g (vs++cap) S.az) (JZ L d reg S os keep k)
@[simp] theorem Zc{L:bC}{d:Option Nat}{g:FuncId}{cap:List V}{reg:List (Nat×Nat)}{S:St}{os:List bI}{keep:c9}{k:cH}{vs:List V} :
  J0 L d g cap reg S os keep k vs=cN (L g (vs++cap) S.az) (JZ L d reg S os keep k):=rfl
def J1(L:bC)(d:Option Nat)(args:List (Sh×bB))(reg:List (Nat×Nat))(S:St)(os:List bI)(keep:c9)(k:cH):V→Prop:=fun f=>match f with
 |.fn g cap=>cN (lS S args) (J0 L d g cap reg S os keep k)
 |_=>False
@[simp] theorem Zd{L:bC}{d:Option Nat}{args:List (Sh×bB)}{reg:List (Nat×Nat)}{S:St}{os:List bI}{keep:c9}{k:cH}{g:FuncId}{cap:List V} :
  J1 L d args reg S os keep k (.fn g cap)=cN (lS S args) (J0 L d g cap reg S os keep k):=rfl
@[simp high] theorem am1{L:bC}{d:Option Nat}{f:bB}{args:List (Sh×bB)}{reg:List (Nat×Nat)}{os:List bI}{keep:c9}{k:cH}{S:St} :
  eb L (⟨d,.call false f args reg,none⟩::os) keep k S=cN (S.ev f) (J1 L d args reg S os keep k):=by
 rw[iy];simp only[bI.run,VO.run];rcases S.ev f with _|v
 ·simp[cN]
 ·simp only[ry]
  cases v with
  |fn g cap =>
   simp only[Zd];cases lS S args with
   |none=>simp[cN]
   |some vs =>
    simp only[ry,Zc];rcases L g (vs++cap) S.az with _ | ⟨r,G⟩
    ·simp[cN]
    ·simp
  |_=>simp[cN,J1]
def J2(L:bC)(d:Option Nat)(S:St)(os:List bI)(keep:c9)(k:cH):V×List aW→Prop:=fun r =>
 r.2=S.az∧eb L os keep k (S.put d (recv [] r.1).1)
@[simp] theorem Ze{L:bC}{d:Option Nat}{S:St}{os:List bI}{keep:c9}{k:cH}{r:V}{G:List aW} :
  J2 L d S os keep k (r,G)=(G=S.az∧eb L os keep k (S.put d (recv [] r).1)):=rfl
def J3(L:bC)(d:Option Nat)(g:FuncId)(cap:List V)(S:St)(os:List bI)(keep:c9)(k:cH):List V→Prop:=fun vs=>cN (L g (vs++cap) S.az) (J2 L d S os keep k)
@[simp] theorem Zf{L:bC}{d:Option Nat}{g:FuncId}{cap:List V}{S:St}{os:List bI}{keep:c9}{k:cH}{vs:List V} :
  J3 L d g cap S os keep k vs=cN (L g (vs++cap) S.az) (J2 L d S os keep k):=rfl
def J4(L:bC)(d:Option Nat)(args:List (Sh×bB))(S:St)(os:List bI)(keep:c9)(k:cH):V→Prop:=fun f=>match f with
 |.fn g cap=>cN (lS S args) (J3 L d g cap S os keep k)
 |_=>False
@[simp] theorem Zg{L:bC}{d:Option Nat}{args:List (Sh×bB)}{S:St}{os:List bI}{keep:c9}{k:cH}{g:FuncId}{cap:List V} :
  J4 L d args S os keep k (.fn g cap)=cN (lS S args) (J3 L d g cap S os keep k):=rfl
@[simp high] theorem am2{L:bC}{d:Option Nat}{f:bB}{args:List (Sh×bB)}{os:List bI}{keep:c9}{k:cH}{S:St} :
  eb L (⟨d,.mG f args,none⟩::os) keep k S=cN (S.ev f) (J4 L d args S os keep k):=by
 rw[iy];simp only[bI.run,VO.run];rcases S.ev f with _|v
 ·simp[cN]
 ·simp only[ry]
  cases v with
  |fn g cap =>
   simp only[Zg];cases lS S args with
   |none=>simp[cN]
   |some vs =>
    simp only[ry,Zf];rcases L g (vs++cap) S.az with _ | ⟨r,G⟩
    ·simp[cN]
    ·simp only[ry,Ze,rd]
     by_cases h:G=S.az
     ·simp[h]
     ·simp[h,cN]
  |_=>simp[cN,J4]
def FQ(L:bC)(d:Option Nat)(id:Nat)(S:St)(os:List bI)(keep:c9)(k:cH):V×Option (List V)→Prop:=fun p=>match p.2 with
 |some cs=>eb L os keep k ({ S with bb:=(id,cs)::S.bb }.put d p.1)
 |none=>eb L os keep k (S.put d p.1)
@[simp] theorem am3{L:bC}{d:Option Nat}{id:Nat}{S:St}{os:List bI}{keep:c9}{k:cH}{v:V}{cs:List V} :
  FQ L d id S os keep k (v,some cs)=eb L os keep k ({ S with bb:=(id,cs)::S.bb }.put d v):=rfl
@[simp] theorem am4{L:bC}{d:Option Nat}{id:Nat}{S:St}{os:List bI}{keep:c9}{k:cH}{v:V} :
  FQ L d id S os keep k (v,none)=eb L os keep k (S.put d v):=rfl
def J5(L:bC)(d:Option Nat)(id pos:Nat)(S:St)(os:List bI)(keep:c9)(k:cH):V×List aW→Prop:=fun r=>cN (jN id pos r.1) (FQ L d id S os keep k)
@[simp] theorem Zh{L:bC}{d:Option Nat}{id pos:Nat}{S:St}{os:List bI}{keep:c9}{k:cH}{r:V}{G:List aW} :
  J5 L d id pos S os keep k (r,G)=cN (jN id pos r) (FQ L d id S os keep k):=rfl
def Ql(L:bC)(d:Option Nat)(g:FuncId)(id pos:Nat)(S:St)(os:List bI)(keep:c9)(k:cH):List V→Prop:=fun vs=>cN (L g vs []) (J5 L d id pos S os keep k)
@[simp] theorem Zi{L:bC}{d:Option Nat}{g:FuncId}{id pos:Nat}{S:St}{os:List bI}{keep:c9}{k:cH}{vs:List V} :
  Ql L d g id pos S os keep k vs=cN (L g vs []) (J5 L d id pos S os keep k):=rfl
@[simp high] theorem am5{L:bC}{d:Option Nat}{g:FuncId}{args:List (Sh×bB)}{id pos:Nat}{os:List bI}{keep:c9}{k:cH}{S:St} :
  eb L (⟨d,.own (.c (.fn g [])) args id pos,none⟩::os) keep k S=cN (kh S args) (Ql L d g id pos S os keep k):=by
 rw[iy];simp only[bI.run,VO.run,St.ev];cases kh S args with
 |none=>simp[cN]
 |some vs =>
  simp only[ry,Zi];rcases L g vs []with _ | ⟨r,G⟩
  ·simp[cN]
  ·simp only[ry,Zh]
   rcases jN id pos r with _ | ⟨v,_|cs⟩
   ·simp[cN]
   ·simp
   ·simp
def AT(L:bC)(d:Option Nat)(id:Nat)(S:St)(os:List bI)(keep:c9)(k:cH):V×Option (List V)→Prop:=fun p=>match p with
 |(.cb i n ln,some cs)=>cN (bif i==id&&Nat.blt 0 cs.length&&Nat.blt 0 ln&&cs.all V.sc then some ({ S with az:=S.az++[aW.cells cs] }.put d (.dB S.az.length n ln)) else none) (eb L os keep k)
 |(.dW n,none)=>eb L os keep k ({ S with az:=S.az++[aW.cells []] }.put d (.dB S.az.length n 0))
 |_=>False
@[simp] theorem am6{L:bC}{d:Option Nat}{id i n ln:Nat}{S:St}{os:List bI}{keep:c9}{k:cH}{cs:List V} :
  AT L d id S os keep k (.cb i n ln,some cs)=cN (bif i==id&&Nat.blt 0 cs.length&&Nat.blt 0 ln&&cs.all V.sc then some ({ S with az:=S.az++[aW.cells cs] }.put d (.dB S.az.length n ln)) else none) (eb L os keep k):=rfl
@[simp] theorem am7{L:bC}{d:Option Nat}{id n:Nat}{S:St}{os:List bI}{keep:c9}{k:cH} :
  AT L d id S os keep k (.dW n,none)=eb L os keep k ({ S with az:=S.az++[aW.cells []] }.put d (.dB S.az.length n 0)):=rfl
def J6(L:bC)(d:Option Nat)(id:Nat)(S:St)(os:List bI)(keep:c9)(k:cH):V×List aW→Prop:=fun r=>cN (jN id 0 r.1) (AT L d id S os keep k)
@[simp] theorem Zj{L:bC}{d:Option Nat}{id:Nat}{S:St}{os:List bI}{keep:c9}{k:cH}{r:V}{G:List aW} :
  J6 L d id S os keep k (r,G)=cN (jN id 0 r) (AT L d id S os keep k):=rfl
def Qm(L:bC)(d:Option Nat)(g:FuncId)(id:Nat)(S:St)(os:List bI)(keep:c9)(k:cH):List V→Prop:=fun vs=>cN (L g vs []) (J6 L d id S os keep k)
@[simp] theorem Zk{L:bC}{d:Option Nat}{g:FuncId}{id:Nat}{S:St}{os:List bI}{keep:c9}{k:cH}{vs:List V} :
  Qm L d g id S os keep k vs=cN (L g vs []) (J6 L d id S os keep k):=rfl
@[simp high] theorem am8{L:bC}{d:Option Nat}{g:FuncId}{args:List (Sh×bB)}{id:Nat}{os:List bI}{keep:c9}{k:cH}{S:St} :
  eb L (⟨d,.pG (.c (.fn g [])) args id,none⟩::os) keep k S=cN (kh S args) (Qm L d g id S os keep k):=by
 rw[iy];simp only[bI.run,VO.run,St.ev];cases kh S args with
 |none=>simp[cN]
 |some vs =>
  simp only[ry,Zk];rcases L g vs []with _ | ⟨r,G⟩
  ·simp[cN]
  ·simp only[ry,Zj]
   rcases jN id 0 r with _ | ⟨v,o⟩
   ·simp[cN]
   ·rcases o with _|cs
    ·cases v<;>simp[cN,AT]
    ·cases v<;>simp[cN,AT]
     all_goals (split<;>simp_all)
def jW(w:Bool)(o:Option V)(A B:Prop):Prop:=match o with
 |some (.bool b)=>bif b==w then A else B
 |some .undef=>B
 |_=>False
@[simp] theorem am9{b:Bool}{A B:Prop}:jW true (some (.bool b)) A B=sy (some (.bool b)) A B:=by cases b<;>simp[jW]
@[simp] theorem ana{b:Bool}{A B:Prop}:jW false (some (.bool b)) A B=sy (some (.bool b)) B A:=by cases b<;>simp[jW]
@[simp] theorem anb{w:Bool}{A B:Prop}:jW w (some .undef) A B=B:=rfl
@[simp] theorem anc{w b:Bool}{x y:V}{A B:Prop}:jW w (some (kr b x y)) A B=sy (some (.bool b)) (jW w (some x) A B) (jW w (some y) A B):=by cases b<;>simp
@[simp high] theorem ane{L:bC}{d:Option Nat}{al:Bool}{f:bB}{args:List (Sh×bB)}{reg:List (Nat×Nat)}{g:Nat}{w:Bool}{os:List bI}{keep:c9}{k:cH}{S:St} :
  eb L (⟨d,.call al f args reg,some (g,w)⟩::os) keep k S=jW w (look g S.env) (eb L (⟨d,.call al f args reg,none⟩::os) keep k S) (eb L os keep k (S.put d .undef)):=by
 rw[iy,iy];simp only[bI.run];rcases look g S.env with _|v
 ·simp[cN,jW]
 ·cases v with
  |bool b=>simp only[jW];cases b==w<;>simp
  |undef=>simp[jW]
  |_=>simp[cN,jW]
@[simp high] theorem anf{L:bC}{d:Option Nat}{f:bB}{args:List (Sh×bB)}{g:Nat}{w:Bool}{os:List bI}{keep:c9}{k:cH}{S:St} :
  eb L (⟨d,.mG f args,some (g,w)⟩::os) keep k S=jW w (look g S.env) (eb L (⟨d,.mG f args,none⟩::os) keep k S) (eb L os keep k (S.put d .undef)):=by
 rw[iy,iy];simp only[bI.run];rcases look g S.env with _|v
 ·simp[cN,jW]
 ·cases v with
  |bool b=>simp only[jW];cases b==w<;>simp
  |undef=>simp[jW]
  |_=>simp[cN,jW]
theorem Zl{reg:List (Nat×Nat)}{cs:List V}:recv reg (.agg cs)=(.agg (cV reg 0 cs).1,(cV reg 0 cs).2):=rfl
theorem Zm{reg:List (Nat×Nat)}{cs:List V}:recv reg (.tuple cs)=(.tuple (cV reg 0 cs).1,(cV reg 0 cs).2):=rfl
attribute [simp] Zl Zm
@[simp] theorem ang{reg:List (Nat×Nat)}{i:Nat} :
  cV reg i []=([],[]) ∧
  recv reg (.map i)=(strip (.map i),[]):=by and_intros<;>rfl
@[simp] theorem Zn{i:Nat}:∀{vs:List V},cV [] i vs=(vs.map strip,[])
 |[]=>rfl
 |v::vs=>by
  simp only[cV,Zn (i:=i+1) (vs:=vs)];cases v with
  |slice t n es=>cases t<;>rfl
  |_=>rfl
def J7(o:Option Nat)(n:Nat)(es:List (List V))(r:List V×List (Nat×Nat)):List V×List (Nat×Nat):=match o with
 |some f=>(.slice (some f) n es::r.1,(f,es.length)::r.2)
 |none=>(.slice none n es::r.1,r.2)
@[simp] theorem anh{f n:Nat}{es:List (List V)}{r:List V×List (Nat×Nat)}:J7 (some f) n es r=(.slice (some f) n es::r.1,(f,es.length)::r.2):=rfl
@[simp] theorem ani{n:Nat}{es:List (List V)}{r:List V×List (Nat×Nat)}:J7 none n es r=(.slice none n es::r.1,r.2):=rfl
@[simp] theorem anj{reg:List (Nat×Nat)}{i n t:Nat}{es:List (List V)}{vs:List V}:cV reg i (.slice (some t) n es::vs)=J7 (look i reg) n es (cV reg (i+1) vs):=by
 simp only[cV];cases look i reg<;>rfl
@[simp] theorem ank{reg:List (Nat×Nat)}{j:Nat}{us:List V}{k:IntKind}{n:Int}:cV reg j ((.int k n)::us)=(strip (.int k n)::(cV reg (j+1) us).1,(cV reg (j+1) us).2):=rfl
@[simp] theorem anl{reg:List (Nat×Nat)}{k:IntKind}{n:Int}:recv reg (.int k n)=(strip (.int k n),[]):=rfl
@[simp] theorem anm{reg:List (Nat×Nat)}{j:Nat}{us:List V}{b:Bool}:cV reg j ((.bool b)::us)=(strip (.bool b)::(cV reg (j+1) us).1,(cV reg (j+1) us).2):=rfl
@[simp] theorem ann{reg:List (Nat×Nat)}{b:Bool}:recv reg (.bool b)=(strip (.bool b),[]):=rfl
@[simp] theorem ano{reg:List (Nat×Nat)}{j:Nat}{us:List V}{s:List UInt8}:cV reg j ((.str s)::us)=(strip (.str s)::(cV reg (j+1) us).1,(cV reg (j+1) us).2):=rfl
@[simp] theorem anp{reg:List (Nat×Nat)}{s:List UInt8}:recv reg (.str s)=(strip (.str s),[]):=rfl
@[simp] theorem anq{reg:List (Nat×Nat)}{j:Nat}{us:List V} :
  cV reg j (.aK::us)=(strip .aK::(cV reg (j+1) us).1,(cV reg (j+1) us).2) ∧
  cV reg j (.fU::us)=(strip .fU::(cV reg (j+1) us).1,(cV reg (j+1) us).2) ∧
  cV reg j (.fP::us)=(strip .fP::(cV reg (j+1) us).1,(cV reg (j+1) us).2) ∧
  cV reg j (.fV::us)=(strip .fV::(cV reg (j+1) us).1,(cV reg (j+1) us).2) ∧
  cV reg j (.undef::us)=(strip .undef::(cV reg (j+1) us).1,(cV reg (j+1) us).2):=by and_intros<;>rfl
@[simp] theorem anr{reg:List (Nat×Nat)} :
  recv reg .aK=(strip .aK,[]) ∧
  recv reg .fU=(strip .fU,[]) ∧
  recv reg .fP=(strip .fP,[]) ∧
  recv reg .fV=(strip .fV,[]) ∧
  recv reg .undef=(strip .undef,[]):=by and_intros<;>rfl
@[simp] theorem ant{reg:List (Nat×Nat)}{j:Nat}{us:List V}{z:Nat}{es:List (List V)}:cV reg j ((.slice none z es)::us)=(strip (.slice none z es)::(cV reg (j+1) us).1,(cV reg (j+1) us).2):=rfl
@[simp] theorem anu{reg:List (Nat×Nat)}{z:Nat}{es:List (List V)}:recv reg (.slice none z es)=(strip (.slice none z es),[]):=rfl
@[simp] theorem anv{reg:List (Nat×Nat)}{j:Nat}{us:List V}{cs:List V}:cV reg j ((.agg cs)::us)=(strip (.agg cs)::(cV reg (j+1) us).1,(cV reg (j+1) us).2):=rfl
@[simp] theorem anw{reg:List (Nat×Nat)}{j:Nat}{us:List V}{vs:List V}:cV reg j ((.tuple vs)::us)=(strip (.tuple vs)::(cV reg (j+1) us).1,(cV reg (j+1) us).2):=rfl
@[simp] theorem anx{reg:List (Nat×Nat)}{j:Nat}{us:List V}{r:List V}{o:Nat}:cV reg j ((.fa r o)::us)=(strip (.fa r o)::(cV reg (j+1) us).1,(cV reg (j+1) us).2):=rfl
@[simp] theorem anz{reg:List (Nat×Nat)}{r:List V}{o:Nat}:recv reg (.fa r o)=(strip (.fa r o),[]):=rfl
@[simp] theorem anA{reg:List (Nat×Nat)}{j:Nat}{us:List V}{i o:Nat} :
  cV reg j ((.bK i o)::us)=(strip (.bK i o)::(cV reg (j+1) us).1,(cV reg (j+1) us).2) ∧
  cV reg j ((.bO i o)::us)=(strip (.bO i o)::(cV reg (j+1) us).1,(cV reg (j+1) us).2):=by and_intros<;>rfl
@[simp] theorem anB{reg:List (Nat×Nat)}{i o:Nat} :
  recv reg (.bK i o)=(strip (.bK i o),[]) ∧
  recv reg (.bO i o)=(strip (.bO i o),[]):=by and_intros<;>rfl
@[simp] theorem anC{reg:List (Nat×Nat)}{j:Nat}{us:List V}{i o l:Nat}:cV reg j ((.cb i o l)::us)=(strip (.cb i o l)::(cV reg (j+1) us).1,(cV reg (j+1) us).2):=rfl
@[simp] theorem anD{reg:List (Nat×Nat)}{i o l:Nat}:recv reg (.cb i o l)=(strip (.cb i o l),[]):=rfl
@[simp] theorem anE{reg:List (Nat×Nat)}{j:Nat}{us:List V}{f:FuncId}{c:List V}:cV reg j ((.fn f c)::us)=(strip (.fn f c)::(cV reg (j+1) us).1,(cV reg (j+1) us).2):=rfl
@[simp] theorem anF{reg:List (Nat×Nat)}{f:FuncId}{c:List V}:recv reg (.fn f c)=(strip (.fn f c),[]):=rfl
@[simp] theorem anG{reg:List (Nat×Nat)}{j:Nat}{us:List V}{i:Nat}:cV reg j ((.map i)::us)=(strip (.map i)::(cV reg (j+1) us).1,(cV reg (j+1) us).2):=rfl
@[simp] theorem anH{reg:List (Nat×Nat)}{n t:Nat}{es:List (List V)}:recv reg (.slice (some t) n es)=match cV reg 0 [.slice (some t) n es] with
  |([u],ts)=>(u,ts)
  |_=>(.undef,[]):=rfl
theorem FR{α:Type}(g:α→Int):∀l:List α,ly [none] (l.map fun j=>[V.int .i64 (g j)])=some (l.map fun j=>[V.int .i64 (g j)])
 |[]=>rfl
 |a::l=>by simp[ly,lP,el,FR g l]
theorem C5{sz:Nat}:∀(cs:List V) (off n:Nat),sz=1→off+n≤cs.length→chunks sz cs off n=((cs.drop off).take n).map fun v=>[v]
 |cs,off,0,_,_=>by simp[chunks]
 |cs,off,n+1,h,hn=>by
  subst h;rw[chunks,C5 cs (off+1) n rfl (by omega),List.drop_eq_getElem_cons (show off<cs.length by omega)]
  simp only[List.take_succ_cons,List.take_zero,List.map_cons]
@[simp] theorem anI{n:Nat}{f:Nat→Int}:ly [none] (chunks 1 (eW n f) 0 n)=some ((List.range n).map fun j=>[V.int .i64 (f j)]):=by
 rw[C5 _ _ _ rfl (by simp)]
 rw[List.drop_zero,Y8,eW,List.map_map];exact FR f _
theorem Qo{n:Nat}:List.replicate n (V.int .i64 0)=eW n fun _=>0:=by
 rw[←Qi,rep]
@[simp] theorem anJ{n:Nat}:(List.replicate n [V.int .i64 0]).flatten=eW n fun _=>0:=by
 rw[←Qi,rep];simp
@[simp] theorem anK{x y:Nat} :
  V.ic x y .undef=.undef ∧
  V.ic x y .aK=.aK ∧
  V.ic x y .fU=.fU ∧
  V.ic x y .fP=.fP ∧
  V.ic x y .fV=.fV:=by and_intros<;>rfl
@[simp] theorem anL{x:Nat} :
  V.forget x .undef=.undef ∧
  V.forget x .aK=.aK ∧
  V.forget x .fU=.fU ∧
  V.forget x .fP=.fP ∧
  V.forget x .fV=.fV:=by and_intros<;>rfl
@[simp] theorem anM{k:IntKind}{n:Int}{x y:Nat}:V.ic x y (.int k n)=.int k n:=rfl
@[simp] theorem anN{k:IntKind}{n:Int}{x:Nat}:V.forget x (.int k n)=.int k n:=rfl
@[simp] theorem anO{b:Bool}{x y:Nat}:V.ic x y (.bool b)=.bool b:=rfl
@[simp] theorem anP{b:Bool}{x:Nat}:V.forget x (.bool b)=.bool b:=rfl
@[simp] theorem anQ{s:List UInt8}{x y:Nat}:V.ic x y (.str s)=.str s:=rfl
@[simp] theorem anR{s:List UInt8}{x:Nat}:V.forget x (.str s)=.str s:=rfl
@[simp] theorem anS{z:Nat}{es:List (List V)}{x y:Nat}:V.ic x y (.slice none z es)=.slice none z es:=rfl
@[simp] theorem anT{z:Nat}{es:List (List V)}{x:Nat}:V.forget x (.slice none z es)=.slice none z es:=rfl
@[simp] theorem anU{t z:Nat}{es:List (List V)}{x y:Nat}:V.ic x y (.slice (some t) z es:V)=.slice (some t) z es:=rfl
@[simp] theorem anV{t z:Nat}{es:List (List V)}{x:Nat}:V.forget x (.slice (some t) z es:V)=bif t==x then .slice none z es else .slice (some t) z es:=rfl
@[simp] theorem anW{cs:List V}{x y:Nat}:V.ic x y (.agg cs)=.agg cs:=rfl
@[simp] theorem anX{cs:List V}{x:Nat}:V.forget x (.agg cs)=.agg cs:=rfl
@[simp] theorem anY{vs:List V}{x y:Nat}:V.ic x y (.tuple vs)=.tuple vs:=rfl
@[simp] theorem anZ{vs:List V}{x:Nat}:V.forget x (.tuple vs)=.tuple vs:=rfl
@[simp] theorem an0{r:List V}{o:Nat}{x y:Nat}:V.ic x y (.fa r o)=.fa r o:=rfl
@[simp] theorem an1{r:List V}{o:Nat}{x:Nat}:V.forget x (.fa r o)=.fa r o:=rfl
@[simp] theorem an2{i o:Nat}{x y:Nat} :
  V.ic x y (.bK i o)=.bK i o ∧
  V.ic x y (.bO i o)=.bO i o:=by and_intros<;>rfl
@[simp] theorem an3{i o:Nat}{x:Nat} :
  V.forget x (.bK i o)=.bK i o ∧
  V.forget x (.bO i o)=.bO i o:=by and_intros<;>rfl
@[simp] theorem an4{i o l:Nat}{x y:Nat}:V.ic x y (.cb i o l)=bif i==x then .cb y o l else .cb i o l:=rfl
@[simp] theorem an5{i o l:Nat}{x:Nat}:V.forget x (.cb i o l)=.cb i o l:=rfl
@[simp] theorem an6{f:FuncId}{c:List V}{x y:Nat}:V.ic x y (.fn f c)=.fn f c:=rfl
@[simp] theorem an7{f:FuncId}{c:List V}{x:Nat}:V.forget x (.fn f c)=.fn f c:=rfl
@[simp] theorem an8{i:Nat}{x y:Nat}:V.ic x y (.map i)=.map i:=rfl
@[simp] theorem an9{i:Nat}{x:Nat}:V.forget x (.map i)=.map i:=rfl
@[simp] theorem sn0{i s n:Nat}{d:Nat} :
  V.cI d (.dB i s n)=false ∧
  V.dC d (.dB i s n)=false ∧
  V.cu d (.dB i s n)=false:=by and_intros<;>rfl
@[simp] theorem sn1{i s n:Nat} :
  V.cM (.dB i s n)=true ∧
  V.plain (.dB i s n)=false ∧
  V.iw (.dB i s n)=false ∧
  V.iH (.dB i s n)=false ∧
  V.lone (.dB i s n)=false ∧
  V.cells (.dB i s n)=[.dB i s n] ∧
  gX (.dB i s n)=.dB i s n ∧
  strip (.dB i s n)=.dB i s n ∧
  V.j7 (.dB i s n)=.dB i s n ∧
  V.kF (.dB i s n)=.dB i s n:=by and_intros<;>rfl
@[simp] theorem sn2{i s n:Nat}{x y:Nat}:V.ic x y (.dB i s n)=.dB i s n:=rfl
@[simp] theorem sn3{i s n:Nat}{x:Nat}:V.forget x (.dB i s n)=.dB i s n:=rfl
@[simp] theorem sn4{reg:List (Nat×Nat)}{j:Nat}{us:List V}{i s n:Nat}:cV reg j ((.dB i s n)::us)=(strip (.dB i s n)::(cV reg (j+1) us).1,(cV reg (j+1) us).2):=rfl
@[simp] theorem sn5{reg:List (Nat×Nat)}{i s n:Nat}:recv reg (.dB i s n)=(strip (.dB i s n),[]):=rfl
@[simp] theorem sn6{i s o n:Nat}{d:Nat} :
  V.cI d (.gj i s o n)=(i==d) ∧
  V.dC d (.gj i s o n)=(i==d) ∧
  V.cu d (.gj i s o n)=(i==d):=by and_intros<;>rfl
@[simp] theorem sn7{i s o n:Nat} :
  V.cM (.gj i s o n)=true ∧
  V.plain (.gj i s o n)=false ∧
  V.iw (.gj i s o n)=false ∧
  V.iH (.gj i s o n)=false ∧
  V.lone (.gj i s o n)=false ∧
  V.cells (.gj i s o n)=[.gj i s o n] ∧
  gX (.gj i s o n)=.gj i s o n ∧
  strip (.gj i s o n)=.gj i s o n ∧
  V.j7 (.gj i s o n)=.gj i s o n ∧
  V.kF (.gj i s o n)=.gj i s o n:=by and_intros<;>rfl
@[simp] theorem sn8{i s o n:Nat}{x y:Nat}:V.ic x y (.gj i s o n)=.gj i s o n:=rfl
@[simp] theorem sn9{i s o n:Nat}{x:Nat}:V.forget x (.gj i s o n)=.gj i s o n:=rfl
@[simp] theorem aok{reg:List (Nat×Nat)}{j:Nat}{us:List V}{i s o n:Nat}:cV reg j ((.gj i s o n)::us)=(strip (.gj i s o n)::(cV reg (j+1) us).1,(cV reg (j+1) us).2):=rfl
@[simp] theorem aol{reg:List (Nat×Nat)}{i s o n:Nat}:recv reg (.gj i s o n)=(strip (.gj i s o n),[]):=rfl
def dS(l:List Int):List V:=l.map fun n=>.int .i64 n
@[simp] theorem Zo{l:List Int}:(dS l).length=l.length:=by simp[dS]
@[simp] theorem aom{l:List Int}{i:Nat}{v:Int}:(dS l).set i (.int .i64 v)=dS (l.set i v):=by simp[dS]
theorem kT{l:List Int}{i:Nat}(h:i<l.length):(dS l)[i]?=some (.int .i64 (nth l i)):=by simp[dS,eA h]
@[simp] theorem Zp{l:List Int}{d:Nat}:(dS l).all (fun v => !v.cI d)=true:=by simp[dS,V.cI]
@[simp] theorem Qp{l:List Int}:(l.map fun n=>[V.int .i64 n]).flatten=dS l:=by
 induction l with
 |nil=>rfl
 |cons a l ih=>simp only[List.map_cons,List.flatten_cons,ih];rfl
@[simp] theorem J8{l:List Int}{n:Nat}(h:n=l.length):ly [none] (chunks 1 (dS l) 0 n)=some (l.map fun n=>[V.int .i64 n]):=by
 subst h;rw[C5 _ _ _ rfl (by simp)]
 rw[List.drop_zero,List.take_of_length_le (by simp),dS,List.map_map]
 exact FR (fun n=>n) l
@[simp] theorem aon{l m:List Int}:dS l++dS m=dS (l++m):=by simp[dS]
@[simp] theorem aoo{l:List Int}{a:Int}:dS l++[V.int .i64 a]=dS (l++[a]):=by simp[dS]
def kp{α:Type}(o:Option α)(s:Nat)(r:List (Nat×α)):List (Nat×α):=match o with
 |some v=>(s,v)::r
 |none=>r
@[simp] theorem aop{α:Type}{v:α}{s:Nat}{r:List (Nat×α)}:kp (some v) s r=(s,v)::r:=rfl
@[simp] theorem aoq{α:Type}{s:Nat}{r:List (Nat×α)}:kp none s r=r:=rfl
@[simp low] theorem aor{α:Type}{env:List (Nat×α)}{s:Nat}{l:List Nat}:rV env (s::l)=kp (look s env) s (rV env l):=by
 simp only[rV];cases look s env<;>rfl
@[simp low] theorem aos{α:Type}{env:List (Nat×α)}:rV env []=[]:=rfl
attribute [simp] xE lx St.take St.uf mI bI.run VO.run St.ev oA St.put V.bin BY St.keep s9 s8 wD wC mg ox qY el lP
 jx.fits St.na loadAt St.fits iZ kh qZ lS wB V.un EJ St.kD pI rT nS xG St.kE iO.run St.rows St.rS St.ov St.share St.zZ s7 St.uY
@[simp] theorem Zq{a b:Nat}:Nat.ble a b=decide (a≤b):=by
 by_cases h:a≤b
 ·simp[h,Nat.ble_eq]
 ·simp only[h,decide_false]
  exact Bool.eq_false_iff.2 (fun e=>h (Nat.le_of_ble_eq_true e))
@[simp] theorem aot{a b:Nat}:Nat.blt a b=decide (a<b):=by
 rw[Nat.blt,Zq];rfl
attribute [simp] List.getElem?_cons_zero List.getElem?_cons_succ
theorem AU{G r:List aW}{a:aW}:(G++a::r)[G.length]?=some a:=by simp
theorem Qq{G r:List aW}{a b:aW}:(G++a::b::r)[G.length+1]?=some b:=by
 rw[List.getElem?_append_right (by omega)];simp
def vz(S:St)(ids:List Nat)(rs sh:Sh):Option V→Option V
 |some (.cb id s n)=>S.zY ids rs id s n
 |some v=>qZ sh v
 |none=>none
@[simp] theorem aou{S:St}{ids:List Nat}:oy S ids []=some []:=rfl
@[simp] theorem aov{S:St}{ids:List Nat}{rs sh:Sh}{x:bB}{xs:List (Sh×Sh×bB)}:oy S ids ((rs,sh,x)::xs)=match vz S ids rs sh (S.ev x),oy S ids xs with
  |some u,some us=>some (u::us)
  |_,_=>none:=by
 simp only[oy];rcases S.ev x with _|v
 ·rfl
 ·cases v<;>rfl
@[simp] theorem aow{S:St}{ids:List Nat}{rs sh:Sh}{id s n:Nat}:vz S ids rs sh (some (.cb id s n))=bif ids.contains id then (match S.rS rs (.cb id s n) with|some es=>some (V.slice none rs.length es)|none=>none) else none:=rfl
@[simp] theorem aox{S:St}{ids:List Nat}{rs sh:Sh}{k:IntKind}{n:Int}:vz S ids rs sh (some (.int k n))=qZ sh (.int k n):=rfl
@[simp] theorem aoy{S:St}{ids:List Nat}{rs sh:Sh}{b:Bool}:vz S ids rs sh (some (.bool b))=qZ sh (.bool b):=rfl
@[simp] theorem aoz{S:St}{ids:List Nat}{rs sh:Sh}{s:List UInt8}:vz S ids rs sh (some (.str s))=qZ sh (.str s):=rfl
@[simp] theorem aoA{S:St}{ids:List Nat}{rs sh:Sh}:vz S ids rs sh (some .aK)=qZ sh .aK:=rfl
@[simp] theorem aoB{S:St}{ids:List Nat}{rs sh:Sh}{t:Option Nat}{n:Nat}{es:List (List V)}:vz S ids rs sh (some (.slice t n es))=qZ sh (.slice t n es):=rfl
@[simp] theorem aoC{S:St}{ids:List Nat}{rs sh:Sh}{n:Nat}:vz S ids rs sh (some (.dW n))=qZ sh (.dW n):=rfl
@[simp] theorem aoD{S:St}{ids:List Nat}{rs sh:Sh}{cs:List V}:vz S ids rs sh (some (.agg cs))=qZ sh (.agg cs):=rfl
def J9(L:bC)(d:Option Nat)(S:St)(os:List bI)(keep:c9)(k:cH):V×List aW→Prop:=fun r=>r.1.oz=true∧eb L os keep k (S.put d r.1)
@[simp] theorem Zr{L:bC}{d:Option Nat}{S:St}{os:List bI}{keep:c9}{k:cH}{r:V}{G:List aW}:J9 L d S os keep k (r,G)=(r.oz=true∧eb L os keep k (S.put d r)):=rfl
def Qr(L:bC)(d:Option Nat)(g:FuncId)(S:St)(os:List bI)(keep:c9)(k:cH):List V→Prop:=fun vs=>cN (L g vs []) (J9 L d S os keep k)
@[simp] theorem Zs{L:bC}{d:Option Nat}{g:FuncId}{S:St}{os:List bI}{keep:c9}{k:cH}{vs:List V}:Qr L d g S os keep k vs=cN (L g vs []) (J9 L d S os keep k):=rfl
@[simp high] theorem aoE{L:bC}{d:Option Nat}{g:FuncId}{args:List (Sh×Sh×bB)}{ids:List Nat}{os:List bI}{keep:c9}{k:cH}{S:St} :
  eb L (⟨d,.pe (.c (.fn g [])) args ids,none⟩::os) keep k S=cN (oy S ids args) (Qr L d g S os keep k):=by
 rw[iy];simp only[bI.run,VO.run,St.ev];cases oy S ids args with
 |none=>simp[cN]
 |some vs =>
  simp only[ry,Zs];rcases L g vs []with _ | ⟨r,G⟩
  ·simp[cN]
  ·simp only[ry,Zr]
   cases r.oz<;>simp[cN]
@[simp high] theorem aoF{L:bC}{d:Option Nat}{f:bB}{args:List (Sh×Sh×bB)}{ids:List Nat}{g:Nat}{w:Bool}{os:List bI}{keep:c9}{k:cH}{S:St} :
  eb L (⟨d,.pe f args ids,some (g,w)⟩::os) keep k S=jW w (look g S.env) (eb L (⟨d,.pe f args ids,none⟩::os) keep k S) (eb L os keep k (S.put d .undef)):=by
 rw[iy,iy];simp only[bI.run];rcases look g S.env with _|v
 ·simp[cN,jW]
 ·cases v with
  |bool b=>simp only[jW];cases b==w<;>simp
  |undef=>simp[jW]
  |_=>simp[cN,jW]
@[simp] theorem aoG{k:IntKind}{n:Int}:V.oz (.int k n)=true:=rfl
@[simp] theorem aoH{b:Bool}:V.oz (.bool b)=true:=rfl
@[simp] theorem aoI{s:List UInt8}:V.oz (.str s)=true:=rfl
attribute [simp] V.oz V.sc
end Go.Vm
