/- The value machine, 22: weakest preconditions of the evaluator. -/
import Derived.Test.YtcelmhaoipbdiaaGreatVmI
namespace Go.Vm
set_option linter.all false
def cR{α:Type}(o:Option α)(P:α→Prop):Prop:=∃a,o=some a∧P a
@[congr] theorem ax8{α:Type}{o o':Option α}{P:α→Prop}(h:o=o'):cR o P=cR o' P:=by rw[h]
@[simp] theorem uR{α:Type}{a:α}{P:α→Prop}:cR (some a) P=P a:=by simp[cR]
theorem ax9{α:Type}{o:Option α}{a:α}{P:α→Prop}(h:o=some a)(hp:P a):cR o P:=⟨a,h,hp⟩
def v8(o:Option V)(A B:Prop):Prop:=∃t,o=some (.bool t)∧(bif t then A else B)
@[congr] theorem aya{o o':Option V}{A B:Prop}(h:o=o'):v8 o A B=v8 o' A B:=by rw[h]
@[simp] theorem ayb{A B:Prop}:v8 (some (.bool true)) A B=A:=by simp[v8]
@[simp] theorem ayc{A B:Prop}:v8 (some (.bool false)) A B=B:=by simp[v8]
theorem bB{p:Prop}{dp:Decidable p}{A B:Prop}(ha:p→A)(hb:¬p→B):v8 (some (.bool (decide p))) A B:=by
 by_cases h:p
 ·simpa [h] using ha h
 ·simpa [h] using hb h
theorem ic{t:Bool}{A B:Prop}(ha:t=true→A)(hb:t=false→B):v8 (some (.bool t)) A B:=by
 cases t
 ·simpa using hb rfl
 ·simpa using ha rfl
abbrev cH:=qh→St→Prop
def go(L:bD)(c:VC)(S:St)(k:cH):Prop:=∃n e T,VC.run L n c S=some (e,T)∧k e T
@[congr] theorem go_congr{L:bD}{c:VC}{S S':St}{k:cH}(h:S=S'):go L c S k=go L c S' k:=by rw[h]
theorem yI{L:bD}{n m:Nat}(h:n≤m){c:VC}{S:St}{x:qh×St}(hr:VC.run L n c S=some x):VC.run L m c S=some x :=
 BS (fun _ _ _ _ h=>h) h hr
theorem go.mono{L:bD}{c:VC}{S:St}{k k':cH}(h:go L c S k)(hk:∀e T,k e T→k' e T):go L c S k':=by
 obtain⟨n,e,T,h1,h2⟩:=h;exact⟨n,e,T,h1,hk _ _ h2⟩
def sq(L:bD)(b:VC)(k:cH):cH:=fun e T=>match e with
 |.normal=>go L b T k
 |.exit i=>k (.exit i) T
 |.ret=>k .ret T
@[simp] theorem ayd{L:bD}{b:VC}{k:cH}{T:St}:sq L b k .normal T=go L b T k:=rfl
@[simp] theorem aye{L:bD}{b:VC}{k:cH}{i:Nat}{T:St}:sq L b k (.exit i) T=k (.exit i) T:=rfl
@[simp] theorem ayf{L:bD}{b:VC}{k:cH}{T:St}:sq L b k .ret T=k .ret T:=rfl
def bk(id:Nat)(k:cH):cH:=fun e T=>match e with
 |.normal=>k .normal T
 |.exit i=>bif i==id then k .normal T else k (.exit i) T
 |.ret=>k .ret T
@[simp] theorem ayg{id:Nat}{k:cH}{T:St}:bk id k .normal T=k .normal T:=rfl
def IB(b:Bool)(k:cH)(i:Nat)(T:St):Prop:=bif b then k .normal T else k (.exit i) T
@[congr] theorem ayh{b b':Bool}{k:cH}{i:Nat}{T:St}(h:b=b'):IB b k i T=IB b' k i T:=by rw[h]
@[simp] theorem ayi{k:cH}{i:Nat}{T:St}:IB true k i T=k .normal T:=rfl
@[simp] theorem ayj{k:cH}{i:Nat}{T:St}:IB false k i T=k (.exit i) T:=rfl
@[simp] theorem ayk{id:Nat}{k:cH}{i:Nat}{T:St}:bk id k (.exit i) T=IB (i==id) k i T:=rfl
@[simp] theorem ayl{id:Nat}{k:cH}{T:St}:bk id k .ret T=k .ret T:=rfl
def en(L:bD)(os:List bK)(keep:dj)(k:cH):St→Prop:=fun S=>∃T,iE L os S=some T∧k .normal (T.keep keep)
@[congr] theorem aym{L:bD}{os:List bK}{keep:dj}{k:cH}{S S':St}(h:S=S'):en L os keep k S=en L os keep k S':=by rw[h]
@[simp] theorem ayn{L:bD}{keep:dj}{k:cH}{S:St}:en L [] keep k S=k .normal (S.keep keep):=by simp[en,iE]
@[simp] theorem ayo{L:bD}{d:Option Nat}{op:VO}{os:List bK}{keep:dj}{k:cH}{S:St}:en L (⟨d,op,none⟩::os) keep k S=cR (op.run L d S) (en L os keep k):=by
 unfold en cR;simp only[iE,bK.run];cases op.run L d S<;>simp
theorem iY{L:bD}{o:bK}{os:List bK}{keep:dj}{k:cH}{S:St}:en L (o::os) keep k S=cR (o.run L S) (en L os keep k):=by
 unfold en cR;simp only[iE];cases o.run L S<;>simp
def mf{α:Type}(c:Bool)(a b:α):α:=bif c then a else b
@[congr] theorem ayp{α:Type}{c c':Bool}{a a' b b':α}(hc:c=c')(ha:c'=true→a=a')(hb:c'=false→b=b'):mf c a b=mf c' a' b':=by
 subst hc;cases c
 ·exact hb rfl
 ·exact ha rfl
@[congr] theorem ayq{α:Type}{p q:Prop}{dp:Decidable p}[dq:Decidable q]{a a' b b':α}(hc:p=q)(ha:q→a=a')(hb:¬q→b=b'):@mf α (@decide p dp) a b=mf (decide q) a' b':=by
 subst hc;by_cases h:p
 ·simp[mf,h,ha h]
 ·simp[mf,h,hb h]
theorem kF{a b:Int}:(a==b)=decide (a=b):=by by_cases h:a=b<;>simp[h]
theorem lx{a b:Int}:(a != b) = !decide (a=b):=by by_cases h:a=b<;>simp[h]
theorem ly{α:Type}{p:Prop}{dp:Decidable p}{a b:α}(h:p):(bif decide p then a else b)=a:=by simp[h]
@[simp] theorem ayr{k:Int}:decide (k≤(lim:Int))=decide (k≤4294967296):=rfl
@[simp] theorem ays{k:Nat}:decide (k≤lim)=decide (k≤4294967296):=rfl
theorem lz{α:Type}{p q:Prop}{dp:Decidable p}{dq:Decidable q}{a b:α}(h:p∧q):(bif decide p&&decide q then a else b)=a:=by simp[h.1,h.2]
@[simp] theorem ayt{α:Type}{a b:α}:mf true a b=a:=rfl
@[simp] theorem ayu{α:Type}{a b:α}:mf false a b=b:=rfl
@[simp] theorem ayv{α:Type}{c:Bool}{a b:α}:mf (!c) a b=mf c b a:=by cases c<;>rfl
@[simp] theorem ayw{α:Type}{c:Bool}{a b:α}:mf c (some a) (some b)=some (mf c a b):=by cases c<;>rfl
@[simp] theorem ayx{c a b:Bool}:mf c (V.bool a) (V.bool b)=V.bool (bif c then a else b):=by cases c<;>rfl
def kG(o:Option V)(w:Bool)(x:Option V):Option V :=
 match o with
 |some (.bool b)=>bif b==w then x else some .undef
 |some .undef=>some .undef
 |_=>none
@[simp] theorem ayy{b:Bool}{x:Option V}:kG (some (.bool b)) true x=mf b x (some .undef):=by cases b<;>rfl
@[simp] theorem ayz{b:Bool}{x:Option V}:kG (some (.bool b)) false x=mf b (some .undef) x:=by cases b<;>rfl
@[simp] theorem ayA{w:Bool}{x:Option V}:kG (some .undef) w x=some .undef:=rfl
@[simp] theorem ayB{c b w:Bool}{v:V}{x:Option V}:kG (some (mf c (.bool b) v)) w x=mf c (kG (some (.bool b)) w x) (kG (some v) w x):=by cases c<;>rfl
@[simp] theorem ayC{c b w:Bool}{v:V}{x:Option V}:kG (some (mf c v (.bool b))) w x=mf c (kG (some v) w x) (kG (some (.bool b)) w x):=by cases c<;>rfl
def Aq(t:Option V)(x y:Option V):Option V:=match t with
 |some (.bool b)=>mf b x y
 |_=>none
@[simp] theorem ayD{b:Bool}{x y:Option V}:Aq (some (.bool b)) x y=mf b x y:=rfl
def lS(L:bD)(d:Nat)(S:St)(os:List bK)(keep:dj)(k:cH):V→Prop:=fun v=>en L os keep k (S.put (some d) v)
@[simp] theorem ayE{L:bD}{d:Nat}{S:St}{os:List bK}{keep:dj}{k:cH}{v:V}:lS L d S os keep k v=en L os keep k { S with env:=(d,v)::S.env }:=rfl
theorem pK{L:bD}{d g:Nat}{w:Bool}{op:VO}{x:Option V}{S:St}{os:List bK}{keep:dj}{k:cH}(ah:op.run L (some d) S=x.map (S.put (some d))) :
  cR (bK.run L ⟨some d,op,some (g,w)⟩ S) (en L os keep k)=cR (kG (look g S.env) w x) (lS L d S os keep k):=by
 unfold bK.run kG;simp only;cases look g S.env with
 |none=>simp[cR]
 |some v =>
  cases v with
  |bool b =>
   simp only[ah];cases b==w with
   |true=>cases x<;>simp[cR,lS]
   |false=>simp[cR,lS]
  |undef=>simp[cR,lS]
  |_=>simp[cR]
@[simp high] theorem ayF{L:bD}{d:Nat}{c a b:bA}{os:List bK}{keep:dj}{k:cH}{S:St} :
  en L (⟨some d,.pick c a b,none⟩::os) keep k S=cR (Aq (S.ev c) (S.ev a) (S.ev b)) (lS L d S os keep k):=by
 rw[iY];simp only[bK.run,VO.run];rcases S.ev c with _|v
 ·simp[cR,Aq]
 ·cases v with
  |bool t =>
   cases t
   ·simp only[Aq,mf,fu]
    cases S.ev b<;>simp[cR,lS]
   ·simp only[Aq,mf,bM]
    cases S.ev a<;>simp[cR,lS]
  |_=>simp[cR,Aq]
@[simp] theorem ayG{L:bD}{d g:Nat}{w:Bool}{x:bA}{os:List bK}{keep:dj}{k:cH}{S:St} :
  en L (⟨some d,.mv x,some (g,w)⟩::os) keep k S=cR (kG (look g S.env) w (S.ev x)) (lS L d S os keep k):=by
 rw[iY];refine pK ?_;simp only[VO.run]
 repeat' split
 all_goals (first|rfl|simp_all[St.put])
@[simp] theorem ayH{L:bD}{d g:Nat}{w:Bool}{c a b:bA}{os:List bK}{keep:dj}{k:cH}{S:St} :
  en L (⟨some d,.pick c a b,some (g,w)⟩::os) keep k S=cR (kG (look g S.env) w (Aq (S.ev c) (S.ev a) (S.ev b))) (lS L d S os keep k):=by
 rw[iY];refine pK ?_;simp only[VO.run];rcases S.ev c with _|v
 ·rfl
 ·cases v with
  |bool t =>
   cases t
   ·simp only[Aq,mf,fu]
    cases S.ev b<;>rfl
   ·simp only[Aq,mf,bM]
    cases S.ev a<;>rfl
  |_=>rfl
@[simp] theorem ayI{L:bD}{d g:Nat}{w:Bool}{z:List V}{ps:List (Nat×Nat×bA)}{os:List bK}{keep:dj}{k:cH}{S:St} :
  en L (⟨some d,.build z ps,some (g,w)⟩::os) keep k S=cR (kG (look g S.env) w (match sN S ps z with|some cs=>some (.agg cs)|none=>none)) (lS L d S os keep k):=by
 rw[iY];refine pK ?_;simp only[VO.run]
 repeat' split
 all_goals (first|rfl|simp_all[St.put])
@[simp] theorem ayJ{L:bD}{d g:Nat}{w:Bool}{r:j8}{z:Option Nat}{p:bA}{os:List bK}{keep:dj}{k:cH}{S:St} :
  en L (⟨some d,.load r z p,some (g,w)⟩::os) keep k S=cR (kG (look g S.env) w (match S.ev p with|some v=>bif r.fits v then (match S.nY v with|some (cs,off)=>(loadAt z cs off).map (tD r)|none=>none) else none|none=>none)) (lS L d S os keep k):=by
 rw[iY];refine pK ?_;simp only[VO.run];rcases S.ev p with _|v
 ·rfl
 ·simp only
  cases r.fits v with
  |false=>rfl
  |true =>
   rcases S.nY v with _ | ⟨cs,off⟩
   ·rfl
   ·simp only[bM]
    rcases loadAt z cs off with _|u<;>rfl
@[simp] theorem ayK{L:bD}{d g:Nat}{w:Bool}{x:bA}{os:List bK}{keep:dj}{k:cH}{S:St} :
  en L (⟨some d,.uz x,some (g,w)⟩::os) keep k S=cR (kG (look g S.env) w (match S.ev x with|some (.bj i o)=>some (.bj i o)|some (.bH i o)=>some (.bH i o)|some (.e8 r o)=>some (.e8 r o)|_=>none)) (lS L d S os keep k):=by
 rw[iY];refine pK ?_;simp only[VO.run]
 repeat' split
 all_goals (first|rfl|simp_all[St.put])
@[simp] theorem ayL{L:bD}{d g:Nat}{w:Bool}{o:BinOp}{x y:bA}{os:List bK}{keep:dj}{k:cH}{S:St} :
  en L (⟨some d,.bin o x y,some (g,w)⟩::os) keep k S=cR (kG (look g S.env) w (match S.ev x,S.ev y with|some a,some b=>V.bin o a b|_,_=>none)) (lS L d S os keep k):=by
 rw[iY];refine pK ?_;simp only[VO.run]
 repeat' split
 all_goals (first|rfl|simp_all[St.put])
@[simp] theorem ayM{L:bD}{d g:Nat}{w:Bool}{n:Bool}{x y:bA}{os:List bK}{keep:dj}{k:cH}{S:St} :
  en L (⟨some d,.beq n x y,some (g,w)⟩::os) keep k S=cR (kG (look g S.env) w (match S.ev x,S.ev y with|some (.bool a),some (.bool b)=>some (.bool (bif n then a != b else a==b))|_,_=>none)) (lS L d S os keep k):=by
 rw[iY];refine pK ?_;simp only[VO.run]
 repeat' split
 all_goals (first|rfl|simp_all[St.put])
@[simp] theorem ayN{L:bD}{d g:Nat}{w:Bool}{n:Bool}{ks:List Nat}{x y:bA}{os:List bK}{keep:dj}{k:cH}{S:St} :
  en L (⟨some d,.gA n ks x y,some (g,w)⟩::os) keep k S=cR (kG (look g S.env) w (match S.ev x,S.ev y with|some a,some b=>V.gA n ks a b|_,_=>none)) (lS L d S os keep k):=by
 rw[iY];refine pK ?_;simp only[VO.run]
 repeat' split
 all_goals (first|rfl|simp_all[St.put])
@[simp] theorem ayO{L:bD}{d g:Nat}{w:Bool}{o:UnOp}{x:bA}{os:List bK}{keep:dj}{k:cH}{S:St} :
  en L (⟨some d,.un o x,some (g,w)⟩::os) keep k S=cR (kG (look g S.env) w (match S.ev x with|some a=>V.un o a|none=>none)) (lS L d S os keep k):=by
 rw[iY];refine pK ?_;simp only[VO.run]
 repeat' split
 all_goals (first|rfl|simp_all[St.put])
@[simp] theorem ayP{L:bD}{d g:Nat}{w:Bool}{kk:IntKind}{x:bA}{os:List bK}{keep:dj}{k:cH}{S:St} :
  en L (⟨some d,.conv kk x,some (g,w)⟩::os) keep k S=cR (kG (look g S.env) w (match S.ev x with|some (.int _ n)=>some (.int kk (kk.wrap n))|_=>none)) (lS L d S os keep k):=by
 rw[iY];refine pK ?_;simp only[VO.run]
 repeat' split
 all_goals (first|rfl|simp_all[St.put])
@[simp] theorem ayQ{L:bD}{d g:Nat}{w:Bool}{n:Nat}{x:bA}{os:List bK}{keep:dj}{k:cH}{S:St} :
  en L (⟨some d,.tA n x,some (g,w)⟩::os) keep k S=cR (kG (look g S.env) w (match S.ev x with|some (.bj i o)=>some (.bj i (o+n))|some (.bH i o)=>some (.bH i (o+n))|some (.e8 r o)=>some (.e8 r (o+n))|_=>none)) (lS L d S os keep k):=by
 rw[iY];refine pK ?_;simp only[VO.run]
 repeat' split
 all_goals (first|rfl|simp_all[St.put])
@[simp] theorem ayR{L:bD}{d g:Nat}{w:Bool}{x:bA}{os:List bK}{keep:dj}{k:cH}{S:St} :
  en L (⟨some d,.len x,some (g,w)⟩::os) keep k S=cR (kG (look g S.env) w (match S.ev x with|some .bU=>some (.int .i64 0)|some (.ea _)=>some (.int .i64 0)|some (.gd _)=>some (.int .i64 0)|some (.slice _ _ es)=>some (.int .i64 es.length)|some (.bR _ _ n)=>some (.int .i64 n)|some (.c6 _ _ n)=>some (.int .i64 n)|_=>none)) (lS L d S os keep k):=by
 rw[iY];refine pK ?_;simp only[VO.run]
 repeat' split
 all_goals (first|rfl|simp_all[St.put])
@[simp] theorem ayS{L:bD}{d g:Nat}{w:Bool}{x:bA}{os:List bK}{keep:dj}{k:cH}{S:St} :
  en L (⟨some d,.vz x,some (g,w)⟩::os) keep k S=cR (kG (look g S.env) w (match S.ev x with|some (.str s)=>some (.int .i64 s.length)|_=>none)) (lS L d S os keep k):=by
 rw[iY];refine pK ?_;simp only[VO.run]
 repeat' split
 all_goals (first|rfl|simp_all[St.put])
@[simp] theorem ayT{L:bD}{d g:Nat}{w:Bool}{x:bA}{i:Nat}{os:List bK}{keep:dj}{k:cH}{S:St} :
  en L (⟨some d,.ext x i,some (g,w)⟩::os) keep k S=cR (kG (look g S.env) w (match S.ev x with|some (.tuple vs)=>vs[i]? | _=>none)) (lS L d S os keep k):=by
 rw[iY];refine pK ?_;simp only[VO.run]
 repeat' split
 all_goals (first|rfl|simp_all[St.put])
@[simp] theorem ayU{L:bD}{d g:Nat}{w:Bool}{n:Nat}{z:Option Nat}{x:bA}{os:List bK}{keep:dj}{k:cH}{S:St} :
  en L (⟨some d,.field n z x,some (g,w)⟩::os) keep k S=cR (kG (look g S.env) w (match S.ev x with|some (.agg cs)=>loadAt z cs n|_=>none)) (lS L d S os keep k):=by
 rw[iY];refine pK ?_;simp only[VO.run]
 repeat' split
 all_goals (first|rfl|simp_all[St.put])
@[simp] theorem ayV{L:bD}{d g:Nat}{w:Bool}{m:Bool}{x y:bA}{os:List bK}{keep:dj}{k:cH}{S:St} :
  en L (⟨some d,.mm m x y,some (g,w)⟩::os) keep k S=cR (kG (look g S.env) w (match S.ev x,S.ev y with|some (.int k a),some (.int _ b)=>some (.int k (bif m then max a b else min a b))|_,_=>none)) (lS L d S os keep k):=by
 rw[iY];refine pK ?_;simp only[VO.run];rcases S.ev x with _|a
 ·rfl
 ·rcases S.ev y with _|b
  ·cases a<;>rfl
  ·cases a<;>cases b<;>rfl
@[simp] theorem ayW{L:bD}{d g:Nat}{w:Bool}{m:Bool}{x y z:bA}{os:List bK}{keep:dj}{k:cH}{S:St} :
  en L (⟨some d,.vB m x y z,some (g,w)⟩::os) keep k S=cR (kG (look g S.env) w (match S.ev x,S.ev y,S.ev z with|some (.int k a),some (.int _ b),some (.int _ c)=>some (.int k (bif m then max (max a b) c else min (min a b) c))|_,_,_=>none)) (lS L d S os keep k):=by
 rw[iY];refine pK ?_;simp only[VO.run];rcases S.ev x with _|a
 ·rfl
 ·rcases S.ev y with _|b
  ·cases a<;>rfl
  ·rcases S.ev z with _|c
   ·cases a<;>cases b<;>rfl
   ·cases a<;>cases b<;>cases c<;>rfl
@[simp] theorem ayX{L:bD}{d g:Nat}{w:Bool}{n z:Nat}{a:Bool}{x i:bA}{os:List bK}{keep:dj}{k:cH}{S:St} :
  en L (⟨some d,.idx n z a x i,some (g,w)⟩::os) keep k S=cR (kG (look g S.env) w (match S.ev x,S.ev i with|some (.agg cs),some (.int _ k)=>bif decide (0≤k)&&decide (k<n) then loadAt (bif a then some z else none) cs (k.toNat*z) else none|_,_=>none)) (lS L d S os keep k):=by
 rw[iY];refine pK ?_;simp only[VO.run];rcases S.ev x with _|v
 ·rfl
 ·rcases S.ev i with _|j
  ·cases v<;>rfl
  ·cases v with
   |agg cs =>
    cases j with
    |int kk m =>
     simp only;cases (decide (0≤m)&&decide (m<n)) with
     |false=>rfl
     |true =>
      simp only[bM];rcases loadAt (bif a then some z else none) cs (m.toNat*z) with _|u<;>rfl
    |_=>rfl
   |_=>cases j<;>rfl
@[simp] theorem ayY{L:bD}{d g:Nat}{w:Bool}{n:Nat}{x i:bA}{os:List bK}{keep:dj}{k:cH}{S:St} :
  en L (⟨some d,.oJ none n x i,some (g,w)⟩::os) keep k S=cR (kG (look g S.env) w (match S.ev x,S.ev i with
   |some (.slice _ m es),some (.int _ k)=>bif decide (0≤k)&&(m==n) then (match es[k.toNat]? with|some r=>some (.e8 r 0)|none=>none) else none
   |some (.bR id off ln),some (.int _ k)=>bif decide (0≤k)&&decide (k<ln)&&(off==n) then some (.bj id (k.toNat*n)) else none
   |some (.c6 id off ln),some (.int _ k)=>bif decide (0≤k)&&decide (k<ln)&&(off==n) then some (.bH id (k.toNat*n)) else none
   |_,_=>none)) (lS L d S os keep k):=by
 rw[iY];refine pK ?_;simp only[VO.run];rcases S.ev x with _|v
 ·rfl
 ·rcases S.ev i with _|j
  ·cases v<;>rfl
  ·cases v with
   |slice t m es =>
    cases j with
    |int kk q =>
     simp only;cases (decide (0≤q)&&(m==n)) with
     |false=>rfl
     |true =>
      simp only[bM];rcases es[q.toNat]? with _|u<;>rfl
    |_=>rfl
   |bR id off ln =>
    cases j with
    |int kk q =>
     simp only;cases (decide (0≤q)&&decide (q<ln)&&(off==n)) with
     |false=>rfl
     |true=>rfl
    |_=>rfl
   |c6 id off ln =>
    cases j with
    |int kk q =>
     simp only;cases (decide (0≤q)&&decide (q<ln)&&(off==n)) with
     |false=>rfl
     |true=>rfl
    |_=>rfl
   |_=>cases j<;>rfl
def nth{α:Type}[Inhabited α](l:List α)(i:Nat):α:=l.getD i default
theorem aY{α:Type}[Inhabited α]{l:List α}{i:Nat}(h:i<l.length):l[i]?=some (nth l i):=by
 simp[nth,List.getD,h]
theorem dA{l:List Int}{i:Nat}(h:i<l.length):l[i]?=some (nth l i):=aY h
def lk{α:Type}(b:Bool)(v:α)(s:Nat)(r:List (Nat×α)):Option α:=bif b then some v else look s r
@[simp] theorem ayZ{α:Type}{s k:Nat}{v:α}{r:List (Nat×α)}:look s ((k,v)::r)=lk (k==s) v s r:=rfl
@[simp] theorem ay0{α:Type}{s:Nat}:look s ([]:List (Nat×α))=none:=rfl
@[simp] theorem ay1{α:Type}{s:Nat}{v:α}{r:List (Nat×α)}:lk true v s r=some v:=rfl
@[simp] theorem ay2{α:Type}{s:Nat}{v:α}{r:List (Nat×α)}:lk false v s r=look s r:=rfl
def xr{α:Type}(d:Nat)(l:List (Nat×α)):List (Nat×α):=l.filter fun p => !(p.1==d)
def Md{α:Type}(b:Bool)(k:Nat)(v:α)(r:List (Nat×α)):List (Nat×α):=bif b then r else (k,v)::r
@[simp] theorem ay3{α:Type}{k:Nat}{v:α}{r:List (Nat×α)}:Md true k v r=r:=rfl
@[simp] theorem ay4{α:Type}{k:Nat}{v:α}{r:List (Nat×α)}:Md false k v r=(k,v)::r:=rfl
@[simp] theorem ay5{α:Type}{d:Nat}:xr d ([]:List (Nat×α))=[]:=rfl
@[simp] theorem ay6{α:Type}{d k:Nat}{v:α}{r:List (Nat×α)}:xr d ((k,v)::r)=Md (k==d) k v (xr d r):=by
 unfold xr Md;cases h:k==d<;>simp[List.filter,h]
@[simp] theorem ay7{α:Type}{d:Nat}{l:List (Nat×α)}:(l.filter fun p => !(p.1==d))=xr d l:=rfl
@[simp] theorem ay8{S:St}:S.clean []=some S:=rfl
@[simp] theorem ay9{S:St}{d:Nat}{ds:List Nat}:S.clean (d::ds)=bif ((xr d S.env).all fun p => !p.2.cA d)&&((xr d S.aZ).all fun p=>p.2.all fun v => !v.cI d) then
  St.clean { env:=xr d S.env,aZ:=xr d S.aZ,bl:=xr d S.bl,aD:=S.aD } ds else none:=rfl
theorem IC{α β:Type}{a:α}{b:β}{k:α→β→Prop}:(∃e T,(a=e∧b=T)∧k e T)↔k a b :=
 ⟨fun⟨_,_,⟨h,h'⟩,hk⟩=>by subst h;subst h';exact hk,fun h=>⟨_,_,⟨rfl,rfl⟩,h⟩⟩
def YY(L:bD)(ids:List Nat)(os:List bK)(keep:dj)(k:cH):St→Prop:=fun S=>cR (S.clean ids) (en L os keep k)
@[simp] theorem alh{L:bD}{ids:List Nat}{os:List bK}{keep:dj}{k:cH}{S:St}:YY L ids os keep k S=cR (S.clean ids) (en L os keep k):=rfl
@[simp] theorem aza{L:bD}{gh:List iv}{S:St}{k:cH}:go L (.CX gh) S k=cR (oM gh S) (k .ret):=by
 refine propext ⟨?_,?_⟩
 ·rintro⟨n,e,T,h,hk⟩
  simp only[VC.run]at h;split at h
  ·rename_i S' h1;cases h;exact⟨_,h1,hk⟩
  ·cases h
 ·rintro⟨S',h1,hk⟩
  exact⟨0,_,_,by simp only[VC.run,h1],hk⟩
@[simp] theorem azb{L:bD}{S:St}{k:cH}:go L .dead S k=False:=by simp[go,VC.run,IC]
@[simp] theorem go_skip{L:bD}{S:St}{k:cH}:go L .skip S k=k .normal S:=by simp[go,VC.run,IC]
@[simp] theorem azc{L:bD}{S:St}{k:cH}{i:Nat}:go L (.exit i) S k=k (.exit i) S:=by simp[go,VC.run,IC]
@[simp] theorem go_ret{L:bD}{S:St}{k:cH}:go L .ret S k=k .ret S:=by simp[go,VC.run,IC]
@[simp] theorem go_region{L:bD}{gh:List iv}{ids:List Nat}{os:List bK}{keep:dj}{S:St}{k:cH} :
  go L (.region gh ids os keep) S k=cR (oM gh S) (YY L ids os keep k):=by
 unfold go cR;simp only[VC.run,alh];cases oM gh S with
 |none=>simp
 |some S1 =>
  simp only[Option.some.injEq,exists_eq_left',cR];cases S1.clean ids with
  |none=>simp
  |some S2 =>
   simp only[Option.some.injEq,exists_eq_left',en];cases iE L os S2 with
   |none=>simp
   |some S3=>simp[IC]
@[simp] theorem azd{L:bD}{a b:VC}{S:St}{k:cH}:go L (.seq a b) S k=go L a S (sq L b k):=by
 refine propext ⟨?_,?_⟩
 ·rintro⟨n,e,T,h,hk⟩
  simp only[VC.run]at h;split at h
  ·rename_i S' h1;exact⟨n,_,_,h1,n,_,_,h,hk⟩
  ·rename_i i S' h1;cases h;exact⟨n,_,_,h1,hk⟩
  ·rename_i S' h1;cases h;exact⟨n,_,_,h1,hk⟩
  ·cases h
 ·rintro⟨n,e,T,h,hk⟩
  cases e with
  |normal =>
   obtain⟨m,e,T',h',hk⟩:=hk;refine⟨n+m,e,T',?_,hk⟩;simp only[VC.run,yI (Nat.le_add_right n m) h,yI (Nat.le_add_left m n) h']
  |exit i=>exact⟨n,_,_,by simp only[VC.run,h],hk⟩
  |ret=>exact⟨n,_,_,by simp only[VC.run,h],hk⟩
@[simp] theorem aze{L:bD}{c:bA}{a b:VC}{S:St}{k:cH}:go L (.cond c a b) S k=v8 (S.ev c) (go L a S k) (go L b S k):=by
 refine propext ⟨?_,?_⟩
 ·rintro⟨n,e,T,h,hk⟩
  simp only[VC.run]at h;split at h
  ·rename_i t hc
   refine⟨t,hc,?_⟩;cases t with
   |true=>exact⟨n,e,T,h,hk⟩
   |false=>exact⟨n,e,T,h,hk⟩
  ·cases h
 ·rintro⟨t,hc,h⟩
  cases t with
  |true=>obtain⟨n,e,T,h,hk⟩:=h;exact⟨n,e,T,by simp only[VC.run,hc,bM];exact h,hk⟩
  |false=>obtain⟨n,e,T,h,hk⟩:=h;exact⟨n,e,T,by simp only[VC.run,hc,fu];exact h,hk⟩
@[simp] theorem azf{L:bD}{id:Nat}{a:VC}{S:St}{k:cH}:go L (.block id a) S k=go L a S (bk id k):=by
 refine propext ⟨?_,?_⟩
 ·rintro⟨n,e,T,h,hk⟩
  simp only[VC.run]at h;split at h
  ·rename_i S' h1;cases h;exact⟨n,_,_,h1,hk⟩
  ·rename_i i S' h1
   refine⟨n,_,_,h1,?_⟩;cases hi:i==id with
   |true=>simp only[hi,bM]at h;cases h;simp only[bk,hi,bM];exact hk
   |false=>simp only[hi,fu]at h;cases h;simp only[bk,hi,fu];exact hk
  ·rename_i S' h1;cases h;exact⟨n,_,_,h1,hk⟩
  ·cases h
 ·rintro⟨n,e,T,h,hk⟩
  cases e with
  |normal=>exact⟨n,_,_,by simp only[VC.run,h],hk⟩
  |exit i =>
   cases hi:i==id with
   |true=>simp only[bk,hi,bM]at hk;exact⟨n,_,_,by simp only[VC.run,h,hi,bM],hk⟩
   |false=>simp only[bk,hi,fu]at hk;exact⟨n,_,_,by simp only[VC.run,h,hi,fu],hk⟩
  |ret=>exact⟨n,_,_,by simp only[VC.run,h],hk⟩
def Me{α:Type}(keep:dj)(st:α→St)(I:α→Prop)(mu:α→Nat)(m:Nat)(k:cH):cH:=fun e T=>match e with
 |.normal=>∃y,T.keep keep=st y∧I y∧mu y<m
 |.exit i=>k (.exit i) T
 |.ret=>k .ret T
@[simp] theorem azg{α:Type}{keep:dj}{st:α→St}{I:α→Prop}{mu:α→Nat}{m:Nat}{k:cH}{T:St}{i:Nat}:Me keep st I mu m k (.exit i) T=k (.exit i) T:=rfl
@[simp] theorem azh{α:Type}{keep:dj}{st:α→St}{I:α→Prop}{mu:α→Nat}{m:Nat}{k:cH}{T:St}:Me keep st I mu m k .ret T=k .ret T:=rfl
theorem bu{α:Type}{keep:dj}{st:α→St}{I:α→Prop}{mu:α→Nat}{m:Nat}{k:cH}{T:St}(y:α)(h:T.keep keep=st y)(hi:I y)(hm:mu y<m):Me keep st I mu m k .normal T:=⟨y,h,hi,hm⟩
theorem go_loop{α:Type}{L:bD}{c:VC}{gh:List iv}{keep:dj}{a:VC}{k:cH}{S:St}(st:α→St)(I:α→Prop)(mu:α→Nat)(x:α)(hc:c=.loop gh keep a)(hS:cR (oM gh S) fun S=>S.keep keep=st x)(hI:I x)
  (step:∀x,I x→go L a (st x) (Me keep st I mu (mu x) k)):go L c S k:=by
 subst hc;obtain⟨S1,hg,hS⟩:=hS
 suffices h:∀m x S,S.keep keep=st x→mu x<m→I x→∃n e T,iter (fun S=>VC.run L n a (S.keep keep)) n S=some (e,T)∧k e T by
  obtain⟨n,e,T,h1,h2⟩:=h (mu x+1) x S1 hS (by omega) hI
  exact⟨n,e,T,by simp only[VC.run,hg];exact h1,h2⟩
 intro m;induction m with
 |zero=>intro x S _ h;omega
 |succ m ih =>
  intro x S hS hm hI;obtain⟨n,e,T,h1,h2⟩:=step x hI;rw[←hS]at h1;cases e with
  |normal =>
   obtain⟨y,hT,hy,bI⟩:=h2;obtain⟨n',e,T,h3,h4⟩:=ih y T hT (by omega) hy
   refine⟨n+n'+1,e,T,?_,h4⟩;simp only[iter];rw[yI (by omega) h1]
   exact Ix (fun S x h=>yI (by omega) h) (by omega) h3
  |exit i=>exact⟨n+1,_,_,by simp only[iter];rw[yI (by omega) h1],h2⟩
  |ret=>exact⟨n+1,_,_,by simp only[iter];rw[yI (by omega) h1],h2⟩
def gw(L:bD)(f:FuncId)(args:List V)(G:List aP)(Q:V→List aP→Prop):Prop:=∃r G',L f args G=some (r,G')∧Q r G'
def As(rs:List tC)(Q:V→List aP→Prop):cH:=fun e T=>match e with
 |.normal=>cR (wV T rs) fun v=>Q v T.aD
 |.ret=>cR (wV T rs) fun v=>Q v T.aD
 |.exit _=>False
@[simp] theorem azi{rs:List tC}{Q:V→List aP→Prop}{T:St}:As rs Q .normal T=cR (wV T rs) fun v=>Q v T.aD:=rfl
@[simp] theorem azj{rs:List tC}{Q:V→List aP→Prop}{T:St}:As rs Q .ret T=cR (wV T rs) fun v=>Q v T.aD:=rfl
theorem gF{F:FuncId→Option bc}{f:FuncId}{vf:bc}(hf:F f=some vf){args:List V}{G:List aP}{Q:V→List aP→Prop}(hl:(args.length==vf.nparams&&vf.defs.isEmpty&&vf.split.isNone)=true)
  (h:go (aX F) vf.body { env:=qF 0 args,aZ:=[],bl:=[],aD:=G } (As vf.results Q)):gw (aX F) f args G Q:=by
 simp only[b8,KO,Hx]at hl;obtain⟨⟨hl,hd⟩,hs⟩:=hl;obtain⟨n,e,T,h1,h2⟩:=h;cases e with
 |exit i=>exact h2.elim
 |normal =>
  obtain⟨v,h3,h4⟩:=h2;exact⟨v,T.aD,YN hf (n:=n) hd hs (by simp only[bc.call,hl,bM,h1,h3]),h4⟩
 |ret =>
  obtain⟨v,h3,h4⟩:=h2;exact⟨v,T.aD,YN hf (n:=n) hd hs (by simp only[bc.call,hl,bM,h1,h3]),h4⟩
theorem ali{F:FuncId→Option bc}{f:FuncId}{vf:bc}(hf:F f=some vf){i off:Nat}{G:List aP}{Q:V→List aP→Prop}(hl:(1==vf.nparams && !vf.defs.isEmpty&&vf.split.isNone)=true)
  (h:go (aX F) vf.body { env:=qF 0 [.bH i off],aZ:=[],bl:=[],aD:=G } (As vf.results fun _ G1=>∃G2,qG (aX F) [.bH i off] vf.defs.reverse G1=some G2∧Q (.tuple []) G2)):gw (aX F) f [.bH i off] G Q:=by
 simp only[b8,vm,List.isEmpty_eq_false_iff,Hx]at hl;obtain⟨⟨hl,hd⟩,hs⟩:=hl;obtain⟨n,e,T,h1,h2⟩:=h;cases e with
 |exit i=>exact h2.elim
 |normal =>
  obtain⟨v,h3,G2,h4,h5⟩:=h2;exact⟨_,G2,YP hf (n:=n) hd hs (r:=v) (by simp only[bc.call,po,hl,bM,h1,h3]) h4,h5⟩
 |ret =>
  obtain⟨v,h3,G2,h4,h5⟩:=h2;exact⟨_,G2,YP hf (n:=n) hd hs (r:=v) (by simp only[bc.call,po,hl,bM,h1,h3]) h4,h5⟩
theorem bL{F:FuncId→Option bc}{f:FuncId}{vf:bc}(hf:F f=some vf){args:List V}{G G':List aP}{r:V}(hl:(args.length==vf.nparams&&vf.defs.isEmpty&&vf.split.isNone)=true)
  (h:go (aX F) vf.body { env:=qF 0 args,aZ:=[],bl:=[],aD:=G } (As vf.results fun v G1=>v=r∧G1=G')):aX F f args G=some (r,G'):=by
 obtain⟨_,_,h1,rfl,rfl⟩:=gF hf hl h;exact h1
theorem Rf{F:FuncId→Option bc}{f:FuncId}{vf:bc}(hf:F f=some vf){args:List V}{G G':List aP}{r:V}{p m:Nat}(hl:(args.length==vf.nparams&&vf.defs.isEmpty)=true)(hs:vf.split=some p)(hp:args[p]?=some (.slice none m []))
  (h:go (aX F) vf.body { env:=qF 0 (args.set p .bU),aZ:=[],bl:=[],aD:=G } (As vf.results fun v G1=>v=r∧G1=G'))
  (h':go (aX F) vf.body { env:=qF 0 (args.set p (.gd m)),aZ:=[],bl:=[],aD:=G } (As vf.results fun v G1=>v=r∧G1=G')):aX F f args G=some (r,G'):=by
 simp only[b8,KO]at hl;obtain⟨hl,hd⟩:=hl;have key:∀u,go (aX F) vf.body { env:=qF 0 (args.set p u),aZ:=[],bl:=[],aD:=G } (As vf.results fun v G1=>v=r∧G1=G')→∃n,vf.call (aX F) n (args.set p u) G=some (r,G'):=fun u h=>by
  obtain⟨n,e,T,h1,h2⟩:=h;have Mf:((args.set p u).length==vf.nparams)=true:=by rw[pj];exact hl
  cases e with
  |exit i=>exact h2.elim
  |normal =>
   obtain⟨v,h3,rfl,rfl⟩:=h2;exact⟨n,by simp only[bc.call,Mf,bM,h1,h3]⟩
  |ret =>
   obtain⟨v,h3,rfl,rfl⟩:=h2;exact⟨n,by simp only[bc.call,Mf,bM,h1,h3]⟩
 obtain⟨n,h1⟩:=key _ h;obtain⟨k,h2⟩:=key _ h';exact ak7 hf hd hs hp h1 h2
theorem Rg{F:FuncId→Option bc}{f:FuncId}{vf:bc}(hf:F f=some vf){args:List V}{G G':List aP}{r:V}{p:Nat}(hl:(args.length==vf.nparams&&vf.defs.isEmpty)=true)(hs:vf.split=some p)(hp:∀m,args[p]?≠some (.slice none m []))
  (h:go (aX F) vf.body { env:=qF 0 args,aZ:=[],bl:=[],aD:=G } (As vf.results fun v G1=>v=r∧G1=G')):aX F f args G=some (r,G'):=by
 simp only[b8,KO]at hl;obtain⟨hl,hd⟩:=hl;obtain⟨n,e,T,h1,h2⟩:=h;cases e with
 |exit i=>exact h2.elim
 |normal =>
  obtain⟨v,h3,rfl,rfl⟩:=h2;exact YO hf (n:=n) hd hs hp (by simp only[bc.call,hl,bM,h1,h3])
 |ret =>
  obtain⟨v,h3,rfl,rfl⟩:=h2;exact YO hf (n:=n) hd hs hp (by simp only[bc.call,hl,bM,h1,h3])
abbrev i64(n:Int):V:=.int .i64 n
theorem wrap64{n:Int}(h1:-9223372036854775808≤n)(h2:n≤9223372036854775807):IntKind.i64.wrap n=n:=by
 simp[IntKind.wrap,IntKind.bits,IntKind.signed];omega
def rep{α:Type}(n:Nat)(x:α):List α:=List.replicate n x
@[simp] theorem azk{α:Type}{n:Nat}{x:α}:(rep n x).length=n:=by simp[rep]
def fe(n:Nat)(f:Nat→Int):List V:=(List.range n).map fun j=>.int .i64 (f j)
@[simp] theorem azl{n:Nat}{f:Nat→Int}:(fe n f).length=n:=by simp[fe]
theorem Rh{n:Nat}{f g:Nat→Int}(h:∀j,j<n→f j=g j):fe n f=fe n g:=by
 unfold fe;apply Pl;intro j hj;rw[h j (by simpa using hj)]
theorem qo{n:Nat}{f:Nat→Int}{i:Nat}(h:i<n):(fe n f)[i]?=some (.int .i64 (f i)):=by simp[fe,h]
@[simp] theorem azm{n:Nat}{f:Nat→Int}{i:Nat}{v:Int}:(fe n f).set i (.int .i64 v)=fe n fun j=>if j=i then v else f j:=by
 apply xU;intro k;by_cases hk:k<n
 ·by_cases h:i=k
  ·subst h
   rw[WJ (by simpa using hk),qo hk]
   simp
  ·rw[WI h,qo hk,qo hk,av (fun e=>h e.symm)]
 ·rw[mo (by simp;omega),mo (by simp;omega)]
@[simp] theorem azn{n:Nat}{f:Nat→Int}:(fe n f).all V.cQ=true:=by
 simp[fe,V.cQ]
@[simp] theorem azo{n:Nat}{f:Nat→Int}{d:Nat}:(fe n f).all (fun v => !v.cI d)=true:=by
 simp[fe,V.cI]
@[simp] theorem azp{n:Nat}{f:Nat→Int}:(fe n f).all V.jb=true:=by
 simp[fe,V.jb,V.plain]
@[simp] theorem azq{n:Nat}{f:Nat→Int}:(fe n f).map iD=fe n f:=by
 simp[fe,iD]
@[simp] theorem azr{n:Nat}{f:Nat→Int}:(fe n f).map strip=fe n f:=by
 simp[fe,strip,iD]
@[simp] theorem azs{n:Nat}{f:Nat→Int}{d:Nat}:(fe n f).any (V.cI d)=false:=by
 simp[fe,V.cI]
@[simp] theorem alj{n:Nat}{f:Nat→Int}:(fe n f).take n=fe n f:=lZ (by simp)
theorem YZ{S:St}{used:List Nat}{α:Type}(g:α→Int):∀l:List α,n0 S (List.replicate l.length none) used (l.map fun j=>.int .i64 (g j))=some (l.map fun j=>.int .i64 (g j),used)
 |[]=>rfl
 |a::l=>by simp[Bh,n0,Bp,qD,el,YZ g l]
@[simp] theorem azt{S:St}{used:List Nat}{n:Nat}{f:Nat→Int}:n0 S (rep n none) used (fe n f)=some (fe n f,used):=by
 unfold rep;have:=YZ (S:=S) (used:=used) f (List.range n)
 rwa [Pj]at this
@[simp] theorem Y0{n:Nat}:rep n (V.int .i64 0)=fe n fun _=>0:=by
 simp[rep,fe,List.map_const']
theorem Y1:∀(cs:List V) (off:Nat) (vs:List V),off+vs.length≤cs.length→jn cs off vs=cs.take off++vs++cs.drop (off+vs.length)
 |cs,off,[],h=>by simp[jn]
 |cs,off,v::vs,h=>by
  simp only[tx]at h;rw[jn,Y1 _ _ _ (by simp;omega)]
  apply xU;intro i;simp only[tx,qB,List.length_take,oG,pj,lN,kK,oF,List.getElem?_cons];rcases Ht i off with h1|h1|h1
  ·simp (disch:=omega) [h1,aK,av]
  ·subst h1
   grind
  ·grind
theorem alk{cs vs:List V}(h:vs.length=cs.length):jn cs 0 vs=vs:=by
 rw[Y1 _ _ _ (by omega)]
 simp[h]
@[simp] theorem azu{n:Nat}{f g:Nat→Int}:jn (fe n f) 0 (fe n g)=fe n g:=alk (by simp)
@[simp] theorem sm0{d:Nat} :
  V.cI d .undef=false ∧
  V.dP d .undef=false ∧
  V.cA d .undef=false ∧
  V.cI d .bU=false ∧
  V.dP d .bU=false ∧
  V.cA d .bU=false ∧
  V.cI d .gK=false ∧
  V.dP d .gK=false ∧
  V.cA d .gK=false ∧
  V.cI d .gL=false ∧
  V.dP d .gL=false ∧
  V.cA d .gL=false ∧
  V.cI d .gM=false ∧
  V.dP d .gM=false ∧
  V.cA d .gM=false:=by and_intros<;>rfl
@[simp] theorem sm1  :
  V.cQ .undef=false ∧
  V.cells .undef=[.undef] ∧
  V.plain .undef=false ∧
  V.jb .undef=false ∧
  V.jo .undef=false ∧
  V.lone .undef=false ∧
  iD .undef=.undef ∧
  strip .undef=.undef ∧
  V.cQ .bU=true ∧
  V.cells .bU=[.bU] ∧
  V.plain .bU=true ∧
  V.jb .bU=true ∧
  V.jo .bU=true ∧
  V.lone .bU=true ∧
  iD .bU=.bU ∧
  strip .bU=.bU ∧
  V.cQ .gK=true ∧
  V.cells .gK=[.gK] ∧
  V.plain .gK=false ∧
  V.jb .gK=false ∧
  V.jo .gK=false ∧
  V.lone .gK=false ∧
  iD .gK=.gK ∧
  strip .gK=.gK ∧
  V.cQ .gL=true ∧
  V.cells .gL=[.gL] ∧
  V.plain .gL=false ∧
  V.jb .gL=false ∧
  V.jo .gL=false ∧
  V.lone .gL=false ∧
  iD .gL=.gL ∧
  strip .gL=.gL ∧
  V.cQ .gM=true ∧
  V.cells .gM=[.gM] ∧
  V.plain .gM=false ∧
  V.jb .gM=false ∧
  V.jo .gM=false ∧
  V.lone .gM=false ∧
  iD .gM=.gM ∧
  strip .gM=.gM ∧
  V.jm .bU=.bU ∧
  V.lO .bU=.bU ∧
  V.jm .gK=.gK ∧
  V.lO .gK=.gK ∧
  V.jm .gL=.gL ∧
  V.lO .gL=.gL ∧
  V.jm .gM=.gM ∧
  V.lO .gM=.gM:=by and_intros<;>rfl
@[simp] theorem sm2{k:IntKind}{n:Int}{d:Nat} :
  V.cI d (.int k n)=false ∧
  V.dP d (.int k n)=false ∧
  V.cA d (.int k n)=false:=by and_intros<;>rfl
@[simp] theorem sm3{k:IntKind}{n:Int} :
  V.cQ (.int k n)=true ∧
  V.cells (.int k n)=[.int k n] ∧
  V.plain (.int k n)=true ∧
  V.jb (.int k n)=true ∧
  V.jo (.int k n)=true ∧
  V.lone (.int k n)=true ∧
  iD (.int k n)=.int k n ∧
  strip (.int k n)=.int k n ∧
  V.jm (.int k n)=.int k n ∧
  V.lO (.int k n)=.int k n:=by and_intros<;>rfl
@[simp] theorem sm4{b:Bool}{d:Nat} :
  V.cI d (.bool b)=false ∧
  V.dP d (.bool b)=false ∧
  V.cA d (.bool b)=false:=by and_intros<;>rfl
@[simp] theorem sm5{b:Bool} :
  V.cQ (.bool b)=true ∧
  V.cells (.bool b)=[.bool b] ∧
  V.plain (.bool b)=true ∧
  V.jb (.bool b)=true ∧
  V.jo (.bool b)=true ∧
  V.lone (.bool b)=true ∧
  iD (.bool b)=.bool b ∧
  strip (.bool b)=.bool b ∧
  V.jm (.bool b)=.bool b ∧
  V.lO (.bool b)=.bool b:=by and_intros<;>rfl
@[simp] theorem sm6{s:List UInt8}{d:Nat} :
  V.cI d (.str s)=false ∧
  V.dP d (.str s)=false ∧
  V.cA d (.str s)=false:=by and_intros<;>rfl
@[simp] theorem sm7{s:List UInt8} :
  V.cQ (.str s)=true ∧
  V.cells (.str s)=[.str s] ∧
  V.plain (.str s)=true ∧
  V.jb (.str s)=true ∧
  V.jo (.str s)=true ∧
  V.lone (.str s)=true ∧
  iD (.str s)=.str s ∧
  strip (.str s)=.str s ∧
  V.jm (.str s)=.str s ∧
  V.lO (.str s)=.str s:=by and_intros<;>rfl
@[simp] theorem sm8{z:Nat}{es:List (List V)}{d:Nat} :
  V.cI d (.slice none z es)=false ∧
  V.dP d (.slice none z es)=false ∧
  V.cA d (.slice none z es)=false:=by and_intros<;>rfl
@[simp] theorem sm9{z:Nat}{es:List (List V)} :
  V.cQ (.slice none z es)=true ∧
  V.cells (.slice none z es)=[.slice none z es] ∧
  V.plain (.slice none z es)=true ∧
  V.jb (.slice none z es)=true ∧
  V.jo (.slice none z es)=true ∧
  V.lone (.slice none z es)=true ∧
  iD (.slice none z es)=.slice none z es ∧
  strip (.slice none z es)=.slice none z es:=by and_intros<;>rfl
@[simp] theorem azF{t z:Nat}{es:List (List V)}{d:Nat} :
  V.cI d (.slice (some t) z es:V)=(t==d) ∧
  V.dP d (.slice (some t) z es:V)=(t==d) ∧
  V.cA d (.slice (some t) z es:V)=(t==d):=by and_intros<;>rfl
@[simp] theorem azG{t z:Nat}{es:List (List V)} :
  V.cQ (.slice (some t) z es:V)=true ∧
  V.cells (.slice (some t) z es:V)=[.slice (some t) z es] ∧
  V.plain (.slice (some t) z es:V)=false ∧
  V.jb (.slice (some t) z es:V)=true ∧
  V.jo (.slice (some t) z es:V)=true ∧
  V.lone (.slice (some t) z es:V)=true ∧
  iD (.slice (some t) z es:V)=.slice none z es ∧
  strip (.slice (some t) z es:V)=.slice none z es:=by and_intros<;>rfl
@[simp] theorem azH{cs:List V}{d:Nat} :
  V.cI d (.agg cs)=true ∧
  V.dP d (.agg cs)=cs.any (V.cI d) ∧
  V.cA d (.agg cs)=cs.any (V.cI d):=by and_intros<;>rfl
@[simp] theorem azI{cs:List V} :
  V.cQ (.agg cs)=false ∧
  V.cells (.agg cs)=cs ∧
  V.plain (.agg cs)=false ∧
  V.jb (.agg cs)=false ∧
  V.jo (.agg cs)=cs.all V.jb ∧
  V.lone (.agg cs)=cs.all V.jb ∧
  iD (.agg cs)=.agg cs ∧
  strip (.agg cs)=.agg (cs.map iD) ∧
  V.lO (.agg cs)=.agg (cs.map V.jm):=by and_intros<;>rfl
@[simp] theorem azJ{vs:List V}{d:Nat} :
  V.cI d (.tuple vs)=true ∧
  V.dP d (.tuple vs)=true ∧
  V.cA d (.tuple vs)=vs.any (V.dP d):=by and_intros<;>rfl
@[simp] theorem azK{vs:List V} :
  V.cQ (.tuple vs)=false ∧
  V.cells (.tuple vs)=[.tuple vs] ∧
  V.plain (.tuple vs)=false ∧
  V.jb (.tuple vs)=false ∧
  V.jo (.tuple vs)=false ∧
  V.lone (.tuple vs)=vs.all V.jo ∧
  iD (.tuple vs)=.tuple vs ∧
  strip (.tuple vs)=.tuple vs:=by and_intros<;>rfl
@[simp] theorem azL{r:List V}{o:Nat}{d:Nat} :
  V.cI d (.e8 r o)=false ∧
  V.dP d (.e8 r o)=false ∧
  V.cA d (.e8 r o)=false:=by and_intros<;>rfl
@[simp] theorem azM{r:List V}{o:Nat} :
  V.cQ (.e8 r o)=true ∧
  V.cells (.e8 r o)=[.e8 r o] ∧
  V.plain (.e8 r o)=false ∧
  V.jb (.e8 r o)=false ∧
  V.jo (.e8 r o)=false ∧
  V.lone (.e8 r o)=false ∧
  iD (.e8 r o)=.e8 r o ∧
  strip (.e8 r o)=.e8 r o:=by and_intros<;>rfl
@[simp] theorem azN{i o:Nat}{d:Nat} :
  V.cI d (.bj i o)=(i==d) ∧
  V.dP d (.bj i o)=(i==d) ∧
  V.cA d (.bj i o)=(i==d) ∧
  V.cI d (.bH i o)=false ∧
  V.dP d (.bH i o)=false ∧
  V.cA d (.bH i o)=false:=by and_intros<;>rfl
@[simp] theorem azO{i o:Nat} :
  V.cQ (.bj i o)=true ∧
  V.cells (.bj i o)=[.bj i o] ∧
  V.plain (.bj i o)=false ∧
  V.jb (.bj i o)=false ∧
  V.jo (.bj i o)=false ∧
  V.lone (.bj i o)=false ∧
  iD (.bj i o)=.bj i o ∧
  strip (.bj i o)=.bj i o ∧
  V.cQ (.bH i o)=true ∧
  V.cells (.bH i o)=[.bH i o] ∧
  V.plain (.bH i o)=false ∧
  V.jb (.bH i o)=false ∧
  V.jo (.bH i o)=false ∧
  V.lone (.bH i o)=false ∧
  iD (.bH i o)=.bH i o ∧
  strip (.bH i o)=.bH i o ∧
  V.jm (.bH i o)=.bH i o ∧
  V.lO (.bH i o)=.bH i o:=by and_intros<;>rfl
@[simp] theorem azP{i o l:Nat}{d:Nat} :
  V.cI d (.bR i o l)=(i==d) ∧
  V.dP d (.bR i o l)=(i==d) ∧
  V.cA d (.bR i o l)=(i==d):=by and_intros<;>rfl
@[simp] theorem azQ{i o l:Nat} :
  V.cQ (.bR i o l)=true ∧
  V.cells (.bR i o l)=[.bR i o l] ∧
  V.plain (.bR i o l)=false ∧
  V.jb (.bR i o l)=false ∧
  V.jo (.bR i o l)=false ∧
  V.lone (.bR i o l)=false ∧
  iD (.bR i o l)=.bR i o l ∧
  strip (.bR i o l)=.bR i o l ∧
  V.jm (.bR i o l)=.bR i o l ∧
  V.lO (.bR i o l)=.bR i o l:=by and_intros<;>rfl
@[simp] theorem azR{f:FuncId}{c:List V}{d:Nat} :
  V.cI d (.fn f c)=false ∧
  V.dP d (.fn f c)=false ∧
  V.cA d (.fn f c)=false:=by and_intros<;>rfl
@[simp] theorem azS{f:FuncId}{c:List V} :
  V.cQ (.fn f c)=true ∧
  V.cells (.fn f c)=[.fn f c] ∧
  V.plain (.fn f c)=false ∧
  V.jb (.fn f c)=false ∧
  V.jo (.fn f c)=false ∧
  V.lone (.fn f c)=false ∧
  iD (.fn f c)=.fn f c ∧
  strip (.fn f c)=.fn f c ∧
  V.jm (.fn f c)=.fn f c ∧
  V.lO (.fn f c)=.fn f c:=by and_intros<;>rfl
@[simp] theorem azT{i:Nat}{d:Nat} :
  V.cI d (.map i)=false ∧
  V.dP d (.map i)=false ∧
  V.cA d (.map i)=false:=by and_intros<;>rfl
@[simp] theorem azU{i:Nat} :
  V.cQ (.map i)=true ∧
  V.cells (.map i)=[.map i] ∧
  V.plain (.map i)=false ∧
  V.jb (.map i)=false ∧
  V.jo (.map i)=false ∧
  V.lone (.map i)=false ∧
  iD (.map i)=.map i ∧
  strip (.map i)=.map i ∧
  V.jm (.map i)=.map i ∧
  V.lO (.map i)=.map i:=by and_intros<;>rfl
@[simp] theorem azV{n:Nat}{es:List (List V)}{d:Nat} :
  V.cI d (.fE n es)=false ∧
  V.dP d (.fE n es)=false ∧
  V.cA d (.fE n es)=false:=by and_intros<;>rfl
@[simp] theorem azW{n:Nat}{es:List (List V)} :
  V.cQ (.fE n es)=true ∧
  V.cells (.fE n es)=[.fE n es] ∧
  V.plain (.fE n es)=false ∧
  V.jb (.fE n es)=false ∧
  V.jo (.fE n es)=false ∧
  V.lone (.fE n es)=false ∧
  iD (.fE n es)=.fE n es ∧
  strip (.fE n es)=.fE n es ∧
  V.jm (.fE n es)=.slice none n es ∧
  V.lO (.fE n es)=.slice none n es:=by and_intros<;>rfl
@[simp] theorem azX{t:Option Nat}{n:Nat}{es:List (List V)} :
  V.jm (.slice t n es)=.slice t n es ∧
  V.lO (.slice t n es)=.slice t n es:=by and_intros<;>rfl
@[simp] theorem azY{n:Nat}{d:Nat} :
  V.cI d (.ea n)=false ∧
  V.dP d (.ea n)=false ∧
  V.cA d (.ea n)=false ∧
  V.cI d (.gd n)=false ∧
  V.dP d (.gd n)=false ∧
  V.cA d (.gd n)=false:=by and_intros<;>rfl
@[simp] theorem azZ{n:Nat} :
  V.cQ (.ea n)=true ∧
  V.cells (.ea n)=[.ea n] ∧
  V.plain (.ea n)=false ∧
  V.jb (.ea n)=false ∧
  V.jo (.ea n)=false ∧
  V.lone (.ea n)=false ∧
  iD (.ea n)=.ea n ∧
  strip (.ea n)=.ea n ∧
  V.jm (.ea n)=.ea n ∧
  V.lO (.ea n)=.ea n ∧
  V.cQ (.gd n)=true ∧
  V.cells (.gd n)=[.gd n] ∧
  V.plain (.gd n)=false ∧
  V.jb (.gd n)=false ∧
  V.jo (.gd n)=false ∧
  V.lone (.gd n)=false ∧
  iD (.gd n)=.gd n ∧
  strip (.gd n)=.gd n ∧
  V.jm (.gd n)=.gd n ∧
  V.lO (.gd n)=.gd n:=by and_intros<;>rfl
@[simp] theorem az0{t:Option Nat}{z:Nat}{es:List (List V)}:iD (.slice t z es:V)=.slice none z es:=by cases t<;>rfl
@[simp] theorem az1{t:Option Nat}{z:Nat}{es:List (List V)}:strip (.slice t z es:V)=.slice none z es:=by cases t<;>rfl
@[simp] theorem az2{t:Option Nat}{z:Nat}{es:List (List V)}:V.jb (.slice t z es:V)=true:=by cases t<;>rfl
@[simp] theorem az3{t:Option Nat}{z:Nat}{es:List (List V)}:V.jo (.slice t z es:V)=true:=by cases t<;>rfl
@[simp] theorem az4{t:Option Nat}{z:Nat}{es:List (List V)}:V.lone (.slice t z es:V)=true:=by cases t<;>rfl
@[simp] theorem az5{t:Option Nat}{z:Nat}{es:List (List V)}:V.cQ (.slice t z es:V)=true:=by cases t<;>rfl
@[simp] theorem az6{t:Option Nat}{z:Nat}{es:List (List V)}:V.cells (.slice t z es:V)=[.slice t z es]:=by cases t<;>rfl
@[simp] theorem az7{v:V}:tD .kN v=v:=rfl
@[simp] theorem az8{i:Nat}{v:V}:tD (.loc i) v=v:=rfl
@[simp] theorem az9{v:V}:tD .aD v=v.lO:=rfl
def Ri(L:bD)(d:Option Nat)(reg:List (Nat×Nat))(S:St)(os:List bK)(keep:dj)(k:cH):V×List aP→Prop:=fun r =>
 r.1.lone=true∧en L os keep k ({ S with bl:=(recv reg r.1).2++S.bl }.put d (recv reg r.1).1)
@[simp] theorem alm{L:bD}{d:Option Nat}{reg:List (Nat×Nat)}{S:St}{os:List bK}{keep:dj}{k:cH}{r:V}{G:List aP} :
  Ri L d reg S os keep k (r,G)=(r.lone=true∧en L os keep k ({ S with bl:=(recv reg r).2++S.bl }.put d (recv reg r).1)):=rfl
def Y2(L:bD)(d:Option Nat)(g:FuncId)(reg:List (Nat×Nat))(S:St)(os:List bK)(keep:dj)(k:cH):List V→Prop:=fun vs=>cR (L g vs []) (Ri L d reg S os keep k)
@[simp] theorem aln{L:bD}{d:Option Nat}{g:FuncId}{reg:List (Nat×Nat)}{S:St}{os:List bK}{keep:dj}{k:cH}{vs:List V} :
  Y2 L d g reg S os keep k vs=cR (L g vs []) (Ri L d reg S os keep k):=rfl
@[simp high] theorem aAa{L:bD}{d:Option Nat}{g:FuncId}{args:List (Sh×bA)}{reg:List (Nat×Nat)}{os:List bK}{keep:dj}{k:cH}{S:St} :
  en L (⟨d,.call true (.c (.fn g [])) args reg,none⟩::os) keep k S=cR (nL S args) (Y2 L d g reg S os keep k):=by
 rw[iY];simp only[bK.run,VO.run,St.ev];cases nL S args with
 |none=>simp[cR]
 |some vs =>
  simp only[uR,aln];rcases L g vs []with _ | ⟨r,G⟩
  ·simp[cR]
  ·simp only[uR,alm]
   cases r.lone<;>simp[cR]
def Rj(L:bD)(d:Option Nat)(reg:List (Nat×Nat))(S:St)(os:List bK)(keep:dj)(k:cH):V×List aP→Prop:=fun r =>
 en L os keep k ({ S with aD:=r.2,bl:=(recv reg r.1).2++S.bl }.put d (recv reg r.1).1)
@[simp] theorem aAb{L:bD}{d:Option Nat}{reg:List (Nat×Nat)}{S:St}{os:List bK}{keep:dj}{k:cH}{r:V}{G:List aP} :
  Rj L d reg S os keep k (r,G)=en L os keep k ({ S with aD:=G,bl:=(recv reg r).2++S.bl }.put d (recv reg r).1):=rfl
def Rk(L:bD)(d:Option Nat)(g:FuncId)(cap:List V)(reg:List (Nat×Nat))(S:St)(os:List bK)(keep:dj)(k:cH):List V→Prop:=fun vs=>cR (L g (vs++cap) S.aD) (Rj L d reg S os keep k)
@[simp] theorem alo{L:bD}{d:Option Nat}{g:FuncId}{cap:List V}{reg:List (Nat×Nat)}{S:St}{os:List bK}{keep:dj}{k:cH}{vs:List V} :
  Rk L d g cap reg S os keep k vs=cR (L g (vs++cap) S.aD) (Rj L d reg S os keep k):=rfl
def Rl(L:bD)(d:Option Nat)(args:List (Sh×bA))(reg:List (Nat×Nat))(S:St)(os:List bK)(keep:dj)(k:cH):V→Prop:=fun f=>match f with
 |.fn g cap=>cR (nK S args) (Rk L d g cap reg S os keep k)
 |_=>False
@[simp] theorem alp{L:bD}{d:Option Nat}{args:List (Sh×bA)}{reg:List (Nat×Nat)}{S:St}{os:List bK}{keep:dj}{k:cH}{g:FuncId}{cap:List V} :
  Rl L d args reg S os keep k (.fn g cap)=cR (nK S args) (Rk L d g cap reg S os keep k):=rfl
@[simp high] theorem aAc{L:bD}{d:Option Nat}{f:bA}{args:List (Sh×bA)}{reg:List (Nat×Nat)}{os:List bK}{keep:dj}{k:cH}{S:St} :
  en L (⟨d,.call false f args reg,none⟩::os) keep k S=cR (S.ev f) (Rl L d args reg S os keep k):=by
 rw[iY];simp only[bK.run,VO.run];rcases S.ev f with _|v
 ·simp[cR]
 ·simp only[uR]
  cases v with
  |fn g cap =>
   simp only[alp];cases nK S args with
   |none=>simp[cR]
   |some vs =>
    simp only[uR,alo];rcases L g (vs++cap) S.aD with _ | ⟨r,G⟩
    ·simp[cR]
    ·simp
  |_=>simp[cR,Rl]
def Rn(L:bD)(d:Option Nat)(S:St)(os:List bK)(keep:dj)(k:cH):V×List aP→Prop:=fun r =>
 r.2=S.aD∧en L os keep k (S.put d (recv [] r.1).1)
@[simp] theorem alq{L:bD}{d:Option Nat}{S:St}{os:List bK}{keep:dj}{k:cH}{r:V}{G:List aP} :
  Rn L d S os keep k (r,G)=(G=S.aD∧en L os keep k (S.put d (recv [] r).1)):=rfl
def Ro(L:bD)(d:Option Nat)(g:FuncId)(cap:List V)(S:St)(os:List bK)(keep:dj)(k:cH):List V→Prop:=fun vs=>cR (L g (vs++cap) S.aD) (Rn L d S os keep k)
@[simp] theorem alr{L:bD}{d:Option Nat}{g:FuncId}{cap:List V}{S:St}{os:List bK}{keep:dj}{k:cH}{vs:List V} :
  Ro L d g cap S os keep k vs=cR (L g (vs++cap) S.aD) (Rn L d S os keep k):=rfl
def Rp(L:bD)(d:Option Nat)(args:List (Sh×bA))(S:St)(os:List bK)(keep:dj)(k:cH):V→Prop:=fun f=>match f with
 |.fn g cap=>cR (nK S args) (Ro L d g cap S os keep k)
 |_=>False
@[simp] theorem als{L:bD}{d:Option Nat}{args:List (Sh×bA)}{S:St}{os:List bK}{keep:dj}{k:cH}{g:FuncId}{cap:List V} :
  Rp L d args S os keep k (.fn g cap)=cR (nK S args) (Ro L d g cap S os keep k):=rfl
@[simp high] theorem aAd{L:bD}{d:Option Nat}{f:bA}{args:List (Sh×bA)}{os:List bK}{keep:dj}{k:cH}{S:St} :
  en L (⟨d,.sJ f args,none⟩::os) keep k S=cR (S.ev f) (Rp L d args S os keep k):=by
 rw[iY];simp only[bK.run,VO.run];rcases S.ev f with _|v
 ·simp[cR]
 ·simp only[uR]
  cases v with
  |fn g cap =>
   simp only[als];cases nK S args with
   |none=>simp[cR]
   |some vs =>
    simp only[uR,alr];rcases L g (vs++cap) S.aD with _ | ⟨r,G⟩
    ·simp[cR]
    ·simp only[uR,alq,rd]
     by_cases h:G=S.aD
     ·simp[h]
     ·simp[h,cR]
  |_=>simp[cR,Rp]
def Mg(L:bD)(d:Option Nat)(id:Nat)(S:St)(os:List bK)(keep:dj)(k:cH):V×Option (List V)→Prop:=fun p=>match p.2 with
 |some cs=>en L os keep k ({ S with aZ:=(id,cs)::S.aZ }.put d p.1)
 |none=>en L os keep k (S.put d p.1)
@[simp] theorem aAe{L:bD}{d:Option Nat}{id:Nat}{S:St}{os:List bK}{keep:dj}{k:cH}{v:V}{cs:List V} :
  Mg L d id S os keep k (v,some cs)=en L os keep k ({ S with aZ:=(id,cs)::S.aZ }.put d v):=rfl
@[simp] theorem aAf{L:bD}{d:Option Nat}{id:Nat}{S:St}{os:List bK}{keep:dj}{k:cH}{v:V} :
  Mg L d id S os keep k (v,none)=en L os keep k (S.put d v):=rfl
def Rq(L:bD)(d:Option Nat)(id pos:Nat)(S:St)(os:List bK)(keep:dj)(k:cH):V×List aP→Prop:=fun r=>cR (kC id pos r.1) (Mg L d id S os keep k)
@[simp] theorem alu{L:bD}{d:Option Nat}{id pos:Nat}{S:St}{os:List bK}{keep:dj}{k:cH}{r:V}{G:List aP} :
  Rq L d id pos S os keep k (r,G)=cR (kC id pos r) (Mg L d id S os keep k):=rfl
def Y3(L:bD)(d:Option Nat)(g:FuncId)(id pos:Nat)(S:St)(os:List bK)(keep:dj)(k:cH):List V→Prop:=fun vs=>cR (L g vs []) (Rq L d id pos S os keep k)
@[simp] theorem alv{L:bD}{d:Option Nat}{g:FuncId}{id pos:Nat}{S:St}{os:List bK}{keep:dj}{k:cH}{vs:List V} :
  Y3 L d g id pos S os keep k vs=cR (L g vs []) (Rq L d id pos S os keep k):=rfl
@[simp high] theorem aAg{L:bD}{d:Option Nat}{g:FuncId}{args:List (Sh×Sh×bA)}{ids:List Nat}{id pos:Nat}{os:List bK}{keep:dj}{k:cH}{S:St} :
  en L (⟨d,.own (.c (.fn g [])) args ids id pos,none⟩::os) keep k S=cR (mq S ids args) (Y3 L d g id pos S os keep k):=by
 rw[iY];simp only[bK.run,VO.run,St.ev];cases mq S ids args with
 |none=>simp[cR]
 |some vs =>
  simp only[uR,alv];rcases L g vs []with _ | ⟨r,G⟩
  ·simp[cR]
  ·simp only[uR,alu]
   rcases kC id pos r with _ | ⟨v,_|cs⟩
   ·simp[cR]
   ·simp
   ·simp
def FI(L:bD)(d:Option Nat)(id:Nat)(S:St)(os:List bK)(keep:dj)(k:cH):V×Option (List V)→Prop:=fun p=>match p with
 |(.bR i n ln,some cs)=>cR (bif i==id&&Nat.blt 0 cs.length&&Nat.blt 0 ln&&cs.all V.sc then some ({ S with aD:=S.aD++[aP.cells cs] }.put d (.c6 S.aD.length n ln)) else none) (en L os keep k)
 |(.ea n,none)=>en L os keep k ({ S with aD:=S.aD++[aP.cells []] }.put d (.c6 S.aD.length n 0))
 |_=>False
@[simp] theorem aAh{L:bD}{d:Option Nat}{id i n ln:Nat}{S:St}{os:List bK}{keep:dj}{k:cH}{cs:List V} :
  FI L d id S os keep k (.bR i n ln,some cs)=cR (bif i==id&&Nat.blt 0 cs.length&&Nat.blt 0 ln&&cs.all V.sc then some ({ S with aD:=S.aD++[aP.cells cs] }.put d (.c6 S.aD.length n ln)) else none) (en L os keep k):=rfl
@[simp] theorem aAi{L:bD}{d:Option Nat}{id n:Nat}{S:St}{os:List bK}{keep:dj}{k:cH} :
  FI L d id S os keep k (.ea n,none)=en L os keep k ({ S with aD:=S.aD++[aP.cells []] }.put d (.c6 S.aD.length n 0)):=rfl
def Ru(L:bD)(d:Option Nat)(id:Nat)(S:St)(os:List bK)(keep:dj)(k:cH):V×List aP→Prop:=fun r=>cR (kC id 0 r.1) (FI L d id S os keep k)
@[simp] theorem alw{L:bD}{d:Option Nat}{id:Nat}{S:St}{os:List bK}{keep:dj}{k:cH}{r:V}{G:List aP} :
  Ru L d id S os keep k (r,G)=cR (kC id 0 r) (FI L d id S os keep k):=rfl
def Y4(L:bD)(d:Option Nat)(g:FuncId)(id:Nat)(S:St)(os:List bK)(keep:dj)(k:cH):List V→Prop:=fun vs=>cR (L g vs []) (Ru L d id S os keep k)
@[simp] theorem alx{L:bD}{d:Option Nat}{g:FuncId}{id:Nat}{S:St}{os:List bK}{keep:dj}{k:cH}{vs:List V} :
  Y4 L d g id S os keep k vs=cR (L g vs []) (Ru L d id S os keep k):=rfl
@[simp high] theorem aAj{L:bD}{d:Option Nat}{g:FuncId}{args:List (Sh×bA)}{id:Nat}{os:List bK}{keep:dj}{k:cH}{S:St} :
  en L (⟨d,.sL (.c (.fn g [])) args id,none⟩::os) keep k S=cR (nL S args) (Y4 L d g id S os keep k):=by
 rw[iY];simp only[bK.run,VO.run,St.ev];cases nL S args with
 |none=>simp[cR]
 |some vs =>
  simp only[uR,alx];rcases L g vs []with _ | ⟨r,G⟩
  ·simp[cR]
  ·simp only[uR,alw]
   rcases kC id 0 r with _ | ⟨v,o⟩
   ·simp[cR]
   ·rcases o with _|cs
    ·cases v<;>simp[cR,FI]
    ·cases v<;>simp[cR,FI]
     all_goals (split<;>simp_all)
def jG(w:Bool)(o:Option V)(A B:Prop):Prop:=match o with
 |some (.bool b)=>bif b==w then A else B
 |some .undef=>B
 |_=>False
@[simp] theorem aAk{b:Bool}{A B:Prop}:jG true (some (.bool b)) A B=v8 (some (.bool b)) A B:=by cases b<;>simp[jG]
@[simp] theorem aAl{b:Bool}{A B:Prop}:jG false (some (.bool b)) A B=v8 (some (.bool b)) B A:=by cases b<;>simp[jG]
@[simp] theorem aAm{w:Bool}{A B:Prop}:jG w (some .undef) A B=B:=rfl
@[simp] theorem aAn{w b:Bool}{x y:V}{A B:Prop}:jG w (some (mf b x y)) A B=v8 (some (.bool b)) (jG w (some x) A B) (jG w (some y) A B):=by cases b<;>simp
@[simp high] theorem aAo{L:bD}{d:Option Nat}{al:Bool}{f:bA}{args:List (Sh×bA)}{reg:List (Nat×Nat)}{g:Nat}{w:Bool}{os:List bK}{keep:dj}{k:cH}{S:St} :
  en L (⟨d,.call al f args reg,some (g,w)⟩::os) keep k S=jG w (look g S.env) (en L (⟨d,.call al f args reg,none⟩::os) keep k S) (en L os keep k (S.put d .undef)):=by
 rw[iY,iY];simp only[bK.run];rcases look g S.env with _|v
 ·simp[cR,jG]
 ·cases v with
  |bool b=>simp only[jG];cases b==w<;>simp
  |undef=>simp[jG]
  |_=>simp[cR,jG]
@[simp high] theorem aAp{L:bD}{d:Option Nat}{f:bA}{args:List (Sh×bA)}{g:Nat}{w:Bool}{os:List bK}{keep:dj}{k:cH}{S:St} :
  en L (⟨d,.sJ f args,some (g,w)⟩::os) keep k S=jG w (look g S.env) (en L (⟨d,.sJ f args,none⟩::os) keep k S) (en L os keep k (S.put d .undef)):=by
 rw[iY,iY];simp only[bK.run];rcases look g S.env with _|v
 ·simp[cR,jG]
 ·cases v with
  |bool b=>simp only[jG];cases b==w<;>simp
  |undef=>simp[jG]
  |_=>simp[cR,jG]
theorem aly{reg:List (Nat×Nat)}{cs:List V}:recv reg (.agg cs)=(.agg (cY reg 0 cs).1,(cY reg 0 cs).2):=rfl
theorem alz{reg:List (Nat×Nat)}{cs:List V}:recv reg (.tuple cs)=(.tuple (cY reg 0 cs).1,(cY reg 0 cs).2):=rfl
attribute [simp] aly alz
@[simp] theorem aAq{reg:List (Nat×Nat)}{i:Nat} :
  cY reg i []=([],[]) ∧
  recv reg (.map i)=(strip (.map i),[]):=by and_intros<;>rfl
@[simp] theorem alA{i:Nat}:∀{vs:List V},cY [] i vs=(vs.map strip,[])
 |[]=>rfl
 |v::vs=>by
  simp only[cY,alA (i:=i+1) (vs:=vs)];cases v with
  |slice t n es=>cases t<;>rfl
  |_=>rfl
def Rw(o:Option Nat)(n:Nat)(es:List (List V))(r:List V×List (Nat×Nat)):List V×List (Nat×Nat):=match o with
 |some f=>(.slice (some f) n es::r.1,(f,es.length)::r.2)
 |none=>(.slice none n es::r.1,r.2)
@[simp] theorem aAr{f n:Nat}{es:List (List V)}{r:List V×List (Nat×Nat)}:Rw (some f) n es r=(.slice (some f) n es::r.1,(f,es.length)::r.2):=rfl
@[simp] theorem aAs{n:Nat}{es:List (List V)}{r:List V×List (Nat×Nat)}:Rw none n es r=(.slice none n es::r.1,r.2):=rfl
@[simp] theorem aAt{reg:List (Nat×Nat)}{i n t:Nat}{es:List (List V)}{vs:List V}:cY reg i (.slice (some t) n es::vs)=Rw (look i reg) n es (cY reg (i+1) vs):=by
 simp only[cY];cases look i reg<;>rfl
@[simp] theorem aAu{reg:List (Nat×Nat)}{j:Nat}{us:List V}{k:IntKind}{n:Int}:cY reg j ((.int k n)::us)=(strip (.int k n)::(cY reg (j+1) us).1,(cY reg (j+1) us).2):=rfl
@[simp] theorem aAv{reg:List (Nat×Nat)}{k:IntKind}{n:Int}:recv reg (.int k n)=(strip (.int k n),[]):=rfl
@[simp] theorem aAw{reg:List (Nat×Nat)}{j:Nat}{us:List V}{b:Bool}:cY reg j ((.bool b)::us)=(strip (.bool b)::(cY reg (j+1) us).1,(cY reg (j+1) us).2):=rfl
@[simp] theorem aAx{reg:List (Nat×Nat)}{b:Bool}:recv reg (.bool b)=(strip (.bool b),[]):=rfl
@[simp] theorem aAy{reg:List (Nat×Nat)}{j:Nat}{us:List V}{s:List UInt8}:cY reg j ((.str s)::us)=(strip (.str s)::(cY reg (j+1) us).1,(cY reg (j+1) us).2):=rfl
@[simp] theorem aAz{reg:List (Nat×Nat)}{s:List UInt8}:recv reg (.str s)=(strip (.str s),[]):=rfl
@[simp] theorem aAA{reg:List (Nat×Nat)}{j:Nat}{us:List V} :
  cY reg j (.bU::us)=(strip .bU::(cY reg (j+1) us).1,(cY reg (j+1) us).2) ∧
  cY reg j (.gK::us)=(strip .gK::(cY reg (j+1) us).1,(cY reg (j+1) us).2) ∧
  cY reg j (.gL::us)=(strip .gL::(cY reg (j+1) us).1,(cY reg (j+1) us).2) ∧
  cY reg j (.gM::us)=(strip .gM::(cY reg (j+1) us).1,(cY reg (j+1) us).2) ∧
  cY reg j (.undef::us)=(strip .undef::(cY reg (j+1) us).1,(cY reg (j+1) us).2):=by and_intros<;>rfl
@[simp] theorem aAB{reg:List (Nat×Nat)} :
  recv reg .bU=(strip .bU,[]) ∧
  recv reg .gK=(strip .gK,[]) ∧
  recv reg .gL=(strip .gL,[]) ∧
  recv reg .gM=(strip .gM,[]) ∧
  recv reg .undef=(strip .undef,[]):=by and_intros<;>rfl
@[simp] theorem aAC{reg:List (Nat×Nat)}{j:Nat}{us:List V}{z:Nat}{es:List (List V)}:cY reg j ((.slice none z es)::us)=(strip (.slice none z es)::(cY reg (j+1) us).1,(cY reg (j+1) us).2):=rfl
@[simp] theorem aAD{reg:List (Nat×Nat)}{z:Nat}{es:List (List V)}:recv reg (.slice none z es)=(strip (.slice none z es),[]):=rfl
@[simp] theorem aAE{reg:List (Nat×Nat)}{j:Nat}{us:List V}{cs:List V}:cY reg j ((.agg cs)::us)=(strip (.agg cs)::(cY reg (j+1) us).1,(cY reg (j+1) us).2):=rfl
@[simp] theorem aAF{reg:List (Nat×Nat)}{j:Nat}{us:List V}{vs:List V}:cY reg j ((.tuple vs)::us)=(strip (.tuple vs)::(cY reg (j+1) us).1,(cY reg (j+1) us).2):=rfl
@[simp] theorem aAG{reg:List (Nat×Nat)}{j:Nat}{us:List V}{r:List V}{o:Nat}:cY reg j ((.e8 r o)::us)=(strip (.e8 r o)::(cY reg (j+1) us).1,(cY reg (j+1) us).2):=rfl
@[simp] theorem aAH{reg:List (Nat×Nat)}{r:List V}{o:Nat}:recv reg (.e8 r o)=(strip (.e8 r o),[]):=rfl
@[simp] theorem aAI{reg:List (Nat×Nat)}{j:Nat}{us:List V}{i o:Nat} :
  cY reg j ((.bj i o)::us)=(strip (.bj i o)::(cY reg (j+1) us).1,(cY reg (j+1) us).2) ∧
  cY reg j ((.bH i o)::us)=(strip (.bH i o)::(cY reg (j+1) us).1,(cY reg (j+1) us).2):=by and_intros<;>rfl
@[simp] theorem aAJ{reg:List (Nat×Nat)}{i o:Nat} :
  recv reg (.bj i o)=(strip (.bj i o),[]) ∧
  recv reg (.bH i o)=(strip (.bH i o),[]):=by and_intros<;>rfl
@[simp] theorem aAK{reg:List (Nat×Nat)}{j:Nat}{us:List V}{i o l:Nat}:cY reg j ((.bR i o l)::us)=(strip (.bR i o l)::(cY reg (j+1) us).1,(cY reg (j+1) us).2):=rfl
@[simp] theorem aAL{reg:List (Nat×Nat)}{i o l:Nat}:recv reg (.bR i o l)=(strip (.bR i o l),[]):=rfl
@[simp] theorem aAM{reg:List (Nat×Nat)}{j:Nat}{us:List V}{f:FuncId}{c:List V}:cY reg j ((.fn f c)::us)=(strip (.fn f c)::(cY reg (j+1) us).1,(cY reg (j+1) us).2):=rfl
@[simp] theorem aAN{reg:List (Nat×Nat)}{f:FuncId}{c:List V}:recv reg (.fn f c)=(strip (.fn f c),[]):=rfl
@[simp] theorem aAO{reg:List (Nat×Nat)}{j:Nat}{us:List V}{i:Nat}:cY reg j ((.map i)::us)=(strip (.map i)::(cY reg (j+1) us).1,(cY reg (j+1) us).2):=rfl
@[simp] theorem aAP{reg:List (Nat×Nat)}{n t:Nat}{es:List (List V)}:recv reg (.slice (some t) n es)=match cY reg 0 [.slice (some t) n es] with
  |([u],ts)=>(u,ts)
  |_=>(.undef,[]):=rfl
theorem Mh{α:Type}(g:α→Int):∀l:List α,lb [none] (l.map fun j=>[V.int .i64 (g j)])=some (l.map fun j=>[V.int .i64 (g j)])
 |[]=>rfl
 |a::l=>by simp[lb,nH,el,Mh g l]
theorem ID{sz:Nat}:∀(cs:List V) (off n:Nat),sz=1→off+n≤cs.length→chunks sz cs off n=((cs.drop off).take n).map fun v=>[v]
 |cs,off,0,_,_=>by simp[chunks]
 |cs,off,n+1,h,hn=>by
  subst h;rw[chunks,ID cs (off+1) n rfl (by omega),KM (show off<cs.length by omega)]
  simp only[Pu,List.take_zero,oH]
@[simp] theorem aAQ{n:Nat}{f:Nat→Int}:lb [none] (chunks 1 (fe n f) 0 n)=some ((List.range n).map fun j=>[V.int .i64 (f j)]):=by
 rw[ID _ _ _ rfl (by simp)]
 rw[vn,alj,fe,CQ];exact Mh f _
theorem Y6{n:Nat}:List.replicate n (V.int .i64 0)=fe n fun _=>0:=by
 rw[←Y0,rep]
@[simp] theorem aAR{n:Nat}:(List.replicate n [V.int .i64 0]).flatten=fe n fun _=>0:=by
 rw[←Y0,rep];simp
@[simp] theorem aAS{x y:Nat} :
  V.jR x y .undef=.undef ∧
  V.jR x y .bU=.bU ∧
  V.jR x y .gK=.gK ∧
  V.jR x y .gL=.gL ∧
  V.jR x y .gM=.gM:=by and_intros<;>rfl
@[simp] theorem aAT{x:Nat} :
  V.forget x .undef=.undef ∧
  V.forget x .bU=.bU ∧
  V.forget x .gK=.gK ∧
  V.forget x .gL=.gL ∧
  V.forget x .gM=.gM:=by and_intros<;>rfl
@[simp] theorem aAU{k:IntKind}{n:Int}{x y:Nat}:V.jR x y (.int k n)=.int k n:=rfl
@[simp] theorem aAV{k:IntKind}{n:Int}{x:Nat}:V.forget x (.int k n)=.int k n:=rfl
@[simp] theorem aAW{b:Bool}{x y:Nat}:V.jR x y (.bool b)=.bool b:=rfl
@[simp] theorem aAX{b:Bool}{x:Nat}:V.forget x (.bool b)=.bool b:=rfl
@[simp] theorem aAY{s:List UInt8}{x y:Nat}:V.jR x y (.str s)=.str s:=rfl
@[simp] theorem aAZ{s:List UInt8}{x:Nat}:V.forget x (.str s)=.str s:=rfl
@[simp] theorem aA0{z:Nat}{es:List (List V)}{x y:Nat}:V.jR x y (.slice none z es)=.slice none z es:=rfl
@[simp] theorem aA1{z:Nat}{es:List (List V)}{x:Nat}:V.forget x (.slice none z es)=.slice none z es:=rfl
@[simp] theorem aA2{t z:Nat}{es:List (List V)}{x y:Nat}:V.jR x y (.slice (some t) z es:V)=.slice (some t) z es:=rfl
@[simp] theorem aA3{t z:Nat}{es:List (List V)}{x:Nat}:V.forget x (.slice (some t) z es:V)=bif t==x then .slice none z es else .slice (some t) z es:=rfl
@[simp] theorem aA4{cs:List V}{x y:Nat}:V.jR x y (.agg cs)=.agg cs:=rfl
@[simp] theorem aA5{cs:List V}{x:Nat}:V.forget x (.agg cs)=.agg cs:=rfl
@[simp] theorem aA6{vs:List V}{x y:Nat}:V.jR x y (.tuple vs)=.tuple vs:=rfl
@[simp] theorem aA7{vs:List V}{x:Nat}:V.forget x (.tuple vs)=.tuple vs:=rfl
@[simp] theorem aA8{r:List V}{o:Nat}{x y:Nat}:V.jR x y (.e8 r o)=.e8 r o:=rfl
@[simp] theorem aA9{r:List V}{o:Nat}{x:Nat}:V.forget x (.e8 r o)=.e8 r o:=rfl
@[simp] theorem aBa{i o:Nat}{x y:Nat} :
  V.jR x y (.bj i o)=.bj i o ∧
  V.jR x y (.bH i o)=.bH i o:=by and_intros<;>rfl
@[simp] theorem aBb{i o:Nat}{x:Nat} :
  V.forget x (.bj i o)=.bj i o ∧
  V.forget x (.bH i o)=.bH i o:=by and_intros<;>rfl
@[simp] theorem aBc{i o l:Nat}{x y:Nat}:V.jR x y (.bR i o l)=bif i==x then .bR y o l else .bR i o l:=rfl
@[simp] theorem aBd{i o l:Nat}{x:Nat}:V.forget x (.bR i o l)=.bR i o l:=rfl
@[simp] theorem aBe{f:FuncId}{c:List V}{x y:Nat}:V.jR x y (.fn f c)=.fn f c:=rfl
@[simp] theorem aBf{f:FuncId}{c:List V}{x:Nat}:V.forget x (.fn f c)=.fn f c:=rfl
@[simp] theorem aBg{i:Nat}{x y:Nat}:V.jR x y (.map i)=.map i:=rfl
@[simp] theorem aBh{i:Nat}{x:Nat}:V.forget x (.map i)=.map i:=rfl
@[simp] theorem sn0{i s n:Nat}{d:Nat} :
  V.cI d (.c6 i s n)=false ∧
  V.dP d (.c6 i s n)=false ∧
  V.cA d (.c6 i s n)=false:=by and_intros<;>rfl
@[simp] theorem sn1{i s n:Nat} :
  V.cQ (.c6 i s n)=true ∧
  V.plain (.c6 i s n)=false ∧
  V.jb (.c6 i s n)=false ∧
  V.jo (.c6 i s n)=false ∧
  V.lone (.c6 i s n)=false ∧
  V.cells (.c6 i s n)=[.c6 i s n] ∧
  iD (.c6 i s n)=.c6 i s n ∧
  strip (.c6 i s n)=.c6 i s n ∧
  V.jm (.c6 i s n)=.c6 i s n ∧
  V.lO (.c6 i s n)=.c6 i s n:=by and_intros<;>rfl
@[simp] theorem sn2{i s n:Nat}{x y:Nat}:V.jR x y (.c6 i s n)=.c6 i s n:=rfl
@[simp] theorem sn3{i s n:Nat}{x:Nat}:V.forget x (.c6 i s n)=.c6 i s n:=rfl
@[simp] theorem sn4{reg:List (Nat×Nat)}{j:Nat}{us:List V}{i s n:Nat}:cY reg j ((.c6 i s n)::us)=(strip (.c6 i s n)::(cY reg (j+1) us).1,(cY reg (j+1) us).2):=rfl
@[simp] theorem sn5{reg:List (Nat×Nat)}{i s n:Nat}:recv reg (.c6 i s n)=(strip (.c6 i s n),[]):=rfl
@[simp] theorem sn6{i s o n:Nat}{d:Nat} :
  V.cI d (.fT i s o n)=(i==d) ∧
  V.dP d (.fT i s o n)=(i==d) ∧
  V.cA d (.fT i s o n)=(i==d):=by and_intros<;>rfl
@[simp] theorem sn7{i s o n:Nat} :
  V.cQ (.fT i s o n)=true ∧
  V.plain (.fT i s o n)=false ∧
  V.jb (.fT i s o n)=false ∧
  V.jo (.fT i s o n)=false ∧
  V.lone (.fT i s o n)=false ∧
  V.cells (.fT i s o n)=[.fT i s o n] ∧
  iD (.fT i s o n)=.fT i s o n ∧
  strip (.fT i s o n)=.fT i s o n ∧
  V.jm (.fT i s o n)=.fT i s o n ∧
  V.lO (.fT i s o n)=.fT i s o n:=by and_intros<;>rfl
@[simp] theorem sn8{i s o n:Nat}{x y:Nat}:V.jR x y (.fT i s o n)=.fT i s o n:=rfl
@[simp] theorem sn9{i s o n:Nat}{x:Nat}:V.forget x (.fT i s o n)=.fT i s o n:=rfl
@[simp] theorem aBs{reg:List (Nat×Nat)}{j:Nat}{us:List V}{i s o n:Nat}:cY reg j ((.fT i s o n)::us)=(strip (.fT i s o n)::(cY reg (j+1) us).1,(cY reg (j+1) us).2):=rfl
@[simp] theorem aBt{reg:List (Nat×Nat)}{i s o n:Nat}:recv reg (.fT i s o n)=(strip (.fT i s o n),[]):=rfl
@[simp] theorem aBu{i s o n:Nat}{d:Nat} :
  V.cI d (.iM i s o n)=false ∧
  V.dP d (.iM i s o n)=false ∧
  V.cA d (.iM i s o n)=false:=by and_intros<;>rfl
@[simp] theorem aBv{i s o n:Nat} :
  V.cQ (.iM i s o n)=true ∧
  V.plain (.iM i s o n)=false ∧
  V.jb (.iM i s o n)=false ∧
  V.jo (.iM i s o n)=false ∧
  V.lone (.iM i s o n)=false ∧
  V.cells (.iM i s o n)=[.iM i s o n] ∧
  iD (.iM i s o n)=.iM i s o n ∧
  strip (.iM i s o n)=.iM i s o n ∧
  V.jm (.iM i s o n)=.iM i s o n ∧
  V.lO (.iM i s o n)=.iM i s o n:=by and_intros<;>rfl
@[simp] theorem aBw{i s o n:Nat}{x y:Nat}:V.jR x y (.iM i s o n)=.iM i s o n:=rfl
@[simp] theorem aBx{i s o n:Nat}{x:Nat}:V.forget x (.iM i s o n)=.iM i s o n:=rfl
@[simp] theorem aBy{i n:Nat}:V.part (.c6 i 1 n)=some (i,0,n):=rfl
@[simp] theorem aBz{i o n:Nat}:V.part (.iM i 1 o n)=some (i,o,n):=rfl
@[simp] theorem aBA{G:List aP}{i o n:Nat}:Hz G (some (i,o,n))=match G[i]? with
  |some (.cells cs)=>bif Nat.ble (o+n) cs.length&&Nat.blt 0 n then some (G.set i (.cells (jn cs o (List.replicate n (.int .i64 0))))) else none
  |_=>none:=rfl
def cP(l:List Int):List V:=l.map fun n=>.int .i64 n
@[simp] theorem alB{l:List Int}:(cP l).length=l.length:=by simp[cP]
@[simp] theorem Rx{l:List Int}{i:Nat}{v:Int}:(cP l).set i (.int .i64 v)=cP (l.set i v):=by simp[cP]
theorem lA{l:List Int}{i:Nat}(h:i<l.length):(cP l)[i]?=some (.int .i64 (nth l i)):=by simp[cP,dA h]
@[simp] theorem alC{l:List Int}{d:Nat}:(cP l).all (fun v => !v.cI d)=true:=by simp[cP,V.cI]
@[simp] theorem Y7{l:List Int}:(l.map fun n=>[V.int .i64 n]).flatten=cP l:=by
 induction l with
 |nil=>rfl
 |cons a l ih=>simp only[oH,uw,ih];rfl
@[simp] theorem BX{l:List Int}{n:Nat}(h:n=l.length):lb [none] (chunks 1 (cP l) 0 n)=some (l.map fun n=>[V.int .i64 n]):=by
 subst h;rw[ID _ _ _ rfl (by simp)]
 rw[vn,lZ (by simp),cP,CQ]
 exact Mh (fun n=>n) l
@[simp] theorem aBB{l m:List Int}:cP l++cP m=cP (l++m):=by simp[cP]
@[simp] theorem aBC{l:List Int}{a:Int}:cP l++[V.int .i64 a]=cP (l++[a]):=by simp[cP]
def kp{α:Type}(o:Option α)(s:Nat)(r:List (Nat×α)):List (Nat×α):=match o with
 |some v=>(s,v)::r
 |none=>r
@[simp] theorem aBD{α:Type}{v:α}{s:Nat}{r:List (Nat×α)}:kp (some v) s r=(s,v)::r:=rfl
@[simp] theorem aBE{α:Type}{s:Nat}{r:List (Nat×α)}:kp none s r=r:=rfl
@[simp low] theorem aBF{α:Type}{env:List (Nat×α)}{s:Nat}{l:List Nat}:vG env (s::l)=kp (look s env) s (vG env l):=by
 simp only[vG];cases look s env<;>rfl
@[simp low] theorem aBG{α:Type}{env:List (Nat×α)}:vG env []=[]:=rfl
attribute [simp] CY nf St.take St.yd oM bK.run VO.run St.ev qF St.put V.bin Hy St.keep wV wU Bq Bp n0 qD uC el nH
 j8.fits St.nY loadAt St.fits jn nL qg nK Bl V.un K6 St.kM sN vC qf C0 St.px iv.run St.rows St.oK St.sM St.tB St.share St.wS St.Bj St.Bk St.ES wT St.zM
@[simp] theorem alD{a b:Nat}:Nat.ble a b=decide (a≤b):=by
 by_cases h:a≤b
 ·simp[h,Nat.ble_eq]
 ·simp only[h,decide_false]
  exact KE.2 (fun e=>h (jk e))
@[simp] theorem aBH{a b:Nat}:Nat.blt a b=decide (a<b):=by
 rw[Nat.blt,alD];rfl
attribute [simp] Hk Hj
theorem FJ{G r:List aP}{a:aP}:(G++a::r)[G.length]?=some a:=by simp
theorem Y8{G r:List aP}{a b:aP}:(G++a::b::r)[G.length+1]?=some b:=by
 rw[wL (by omega)];simp
def xt(S:St)(ids:List Nat)(rs sh:Sh):Option V→Option V
 |some (.bR id s n)=>S.CZ ids rs id s n
 |some (.fT id s off n)=>S.Bo ids rs id s off n
 |some v=>qg sh v
 |none=>none
@[simp] theorem aBI{S:St}{ids:List Nat}:mq S ids []=some []:=rfl
@[simp] theorem aBJ{S:St}{ids:List Nat}{rs sh:Sh}{x:bA}{xs:List (Sh×Sh×bA)}:mq S ids ((rs,sh,x)::xs)=match xt S ids rs sh (S.ev x),mq S ids xs with
  |some u,some us=>some (u::us)
  |_,_=>none:=by
 simp only[mq];rcases S.ev x with _|v
 ·rfl
 ·cases v<;>rfl
@[simp] theorem aBK{S:St}{ids:List Nat}{rs sh:Sh}{id s n:Nat}:xt S ids rs sh (some (.bR id s n))=bif ids.contains id then (match S.sM rs (.bR id s n) with|some es=>some (V.slice none rs.length es)|none=>none) else none:=rfl
@[simp] theorem aBL{S:St}{ids:List Nat}{rs sh:Sh}{f:FuncId}{c:List V}:xt S ids rs sh (some (.fn f c))=qg sh (.fn f c):=rfl
@[simp] theorem aBM{S:St}{ids:List Nat}{rs sh:Sh}{id s off n:Nat}:xt S ids rs sh (some (.fT id s off n))=bif ids.contains id then (match look id S.aZ with
  |some cs=>bif (s==rs.length)&&Nat.blt 0 rs.length&&Nat.ble (off*rs.length+n*rs.length) cs.length then (match lb rs (chunks rs.length cs (off*rs.length) n) with|some es=>some (V.slice none rs.length es)|none=>none) else none
  |none=>none) else none:=rfl
@[simp] theorem aBN{S:St}{ids:List Nat}{rs sh:Sh}{k:IntKind}{n:Int}:xt S ids rs sh (some (.int k n))=qg sh (.int k n):=rfl
@[simp] theorem aBO{S:St}{ids:List Nat}{rs sh:Sh}{b:Bool}:xt S ids rs sh (some (.bool b))=qg sh (.bool b):=rfl
@[simp] theorem aBP{S:St}{ids:List Nat}{rs sh:Sh}{s:List UInt8}:xt S ids rs sh (some (.str s))=qg sh (.str s):=rfl
@[simp] theorem aBQ{S:St}{ids:List Nat}{rs sh:Sh}:xt S ids rs sh (some .bU)=qg sh .bU:=rfl
@[simp] theorem aBR{S:St}{ids:List Nat}{rs sh:Sh}{t:Option Nat}{n:Nat}{es:List (List V)}:xt S ids rs sh (some (.slice t n es))=qg sh (.slice t n es):=rfl
@[simp] theorem aBS{S:St}{ids:List Nat}{rs sh:Sh}{n:Nat}:xt S ids rs sh (some (.ea n))=qg sh (.ea n):=rfl
@[simp] theorem aBT{S:St}{ids:List Nat}{rs sh:Sh}{cs:List V}:xt S ids rs sh (some (.agg cs))=qg sh (.agg cs):=rfl
def Ry(L:bD)(d:Option Nat)(S:St)(os:List bK)(keep:dj)(k:cH):V×List aP→Prop:=fun r=>r.1.qE=true∧en L os keep k (S.put d r.1)
@[simp] theorem alE{L:bD}{d:Option Nat}{S:St}{os:List bK}{keep:dj}{k:cH}{r:V}{G:List aP}:Ry L d S os keep k (r,G)=(r.qE=true∧en L os keep k (S.put d r)):=rfl
def Y9(L:bD)(d:Option Nat)(g:FuncId)(S:St)(os:List bK)(keep:dj)(k:cH):List V→Prop:=fun vs=>cR (L g vs []) (Ry L d S os keep k)
@[simp] theorem alF{L:bD}{d:Option Nat}{g:FuncId}{S:St}{os:List bK}{keep:dj}{k:cH}{vs:List V}:Y9 L d g S os keep k vs=cR (L g vs []) (Ry L d S os keep k):=rfl
@[simp high] theorem aBU{L:bD}{d:Option Nat}{g:FuncId}{args:List (Sh×Sh×bA)}{ids:List Nat}{os:List bK}{keep:dj}{k:cH}{S:St} :
  en L (⟨d,.sK (.c (.fn g [])) args ids,none⟩::os) keep k S=cR (mq S ids args) (Y9 L d g S os keep k):=by
 rw[iY];simp only[bK.run,VO.run,St.ev];cases mq S ids args with
 |none=>simp[cR]
 |some vs =>
  simp only[uR,alF];rcases L g vs []with _ | ⟨r,G⟩
  ·simp[cR]
  ·simp only[uR,alE]
   cases r.qE<;>simp[cR]
@[simp high] theorem aBV{L:bD}{d:Option Nat}{f:bA}{args:List (Sh×Sh×bA)}{ids:List Nat}{g:Nat}{w:Bool}{os:List bK}{keep:dj}{k:cH}{S:St} :
  en L (⟨d,.sK f args ids,some (g,w)⟩::os) keep k S=jG w (look g S.env) (en L (⟨d,.sK f args ids,none⟩::os) keep k S) (en L os keep k (S.put d .undef)):=by
 rw[iY,iY];simp only[bK.run];rcases look g S.env with _|v
 ·simp[cR,jG]
 ·cases v with
  |bool b=>simp only[jG];cases b==w<;>simp
  |undef=>simp[jG]
  |_=>simp[cR,jG]
@[simp] theorem aBW{k:IntKind}{n:Int}:V.qE (.int k n)=true:=rfl
@[simp] theorem aBX{b:Bool}:V.qE (.bool b)=true:=rfl
@[simp] theorem aBY{s:List UInt8}:V.qE (.str s)=true:=rfl
attribute [simp] V.qE V.sc
end Go.Vm
