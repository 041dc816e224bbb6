/- The value machine, 22: weakest preconditions of the evaluator. -/
import Derived.Test.YtmpikpodpgnjhaaGreatVmI
namespace Go.Vm
set_option linter.all false
def cu{α:Type}(o:Option α)(P:α→Prop):Prop:=∃a,o=some a∧P a
@[congr] theorem akz{α:Type}{o o':Option α}{P:α→Prop}(h:o=o'):cu o P=cu o' P:=by rw[h]
@[simp] theorem qY{α:Type}{a:α}{P:α→Prop}:cu (some a) P=P a:=by simp[cu]
theorem akA{α:Type}{o:Option α}{a:α}{P:α→Prop}(h:o=some a)(hp:P a):cu o P:=⟨a,h,hp⟩
def sO(o:Option V)(A B:Prop):Prop:=∃t,o=some (.bool t)∧(bif t then A else B)
@[congr] theorem akB{o o':Option V}{A B:Prop}(h:o=o'):sO o A B=sO o' A B:=by rw[h]
@[simp] theorem akC{A B:Prop}:sO (some (.bool true)) A B=A:=by simp[sO]
@[simp] theorem akD{A B:Prop}:sO (some (.bool false)) A B=B:=by simp[sO]
theorem bK{p:Prop}{dp:Decidable p}{A B:Prop}(ha:p→A)(hb:¬p→B):sO (some (.bool (decide p))) A B:=by
 by_cases h:p
 ·simpa [h] using ha h
 ·simpa [h] using hb h
theorem gm{t:Bool}{A B:Prop}(ha:t=true→A)(hb:t=false→B):sO (some (.bool t)) A B:=by
 cases t
 ·simpa using hb rfl
 ·simpa using ha rfl
abbrev cf:=nD→St→Prop
def go(L:bm)(c:VC)(S:St)(k:cf):Prop:=∃n e T,VC.run L n c S=some (e,T)∧k e T
@[congr] theorem go_congr{L:bm}{c:VC}{S S':St}{k:cf}(h:S=S'):go L c S k=go L c S' k:=by rw[h]
theorem u3{L:bm}{n m:Nat}(h:n≤m){c:VC}{S:St}{x:nD×St}(hr:VC.run L n c S=some x):VC.run L m c S=some x :=
 xp (fun _ _ _ _ h=>h) h hr
theorem go.mono{L:bm}{c:VC}{S:St}{k k':cf}(h:go L c S k)(hk:∀e T,k e T→k' e T):go L c S k':=by
 obtain⟨n,e,T,h1,h2⟩:=h;exact⟨n,e,T,h1,hk _ _ h2⟩
def sq(L:bm)(b:VC)(k:cf):cf:=fun e T=>match e with
 |.normal=>go L b T k
 |.exit i=>k (.exit i) T
 |.ret=>k .ret T
@[simp] theorem akE{L:bm}{b:VC}{k:cf}{T:St}:sq L b k .normal T=go L b T k:=rfl
@[simp] theorem akF{L:bm}{b:VC}{k:cf}{i:Nat}{T:St}:sq L b k (.exit i) T=k (.exit i) T:=rfl
@[simp] theorem akG{L:bm}{b:VC}{k:cf}{T:St}:sq L b k .ret T=k .ret T:=rfl
def bk(id:Nat)(k:cf):cf:=fun e T=>match e with
 |.normal=>k .normal T
 |.exit i=>bif i==id then k .normal T else k (.exit i) T
 |.ret=>k .ret T
@[simp] theorem akH{id:Nat}{k:cf}{T:St}:bk id k .normal T=k .normal T:=rfl
def CP(b:Bool)(k:cf)(i:Nat)(T:St):Prop:=bif b then k .normal T else k (.exit i) T
@[congr] theorem akI{b b':Bool}{k:cf}{i:Nat}{T:St}(h:b=b'):CP b k i T=CP b' k i T:=by rw[h]
@[simp] theorem akJ{k:cf}{i:Nat}{T:St}:CP true k i T=k .normal T:=rfl
@[simp] theorem akK{k:cf}{i:Nat}{T:St}:CP false k i T=k (.exit i) T:=rfl
@[simp] theorem akL{id:Nat}{k:cf}{i:Nat}{T:St}:bk id k (.exit i) T=CP (i==id) k i T:=rfl
@[simp] theorem akM{id:Nat}{k:cf}{T:St}:bk id k .ret T=k .ret T:=rfl
def dJ(L:bm)(os:List bN)(keep:cR)(k:cf):St→Prop:=fun S=>∃T,fZ L os S=some T∧k .normal (T.keep keep)
@[congr] theorem akN{L:bm}{os:List bN}{keep:cR}{k:cf}{S S':St}(h:S=S'):dJ L os keep k S=dJ L os keep k S':=by rw[h]
@[simp] theorem akO{L:bm}{keep:cR}{k:cf}{S:St}:dJ L [] keep k S=k .normal (S.keep keep):=by simp[dJ,fZ]
@[simp] theorem akP{L:bm}{d:Option Nat}{op:VO}{os:List bN}{keep:cR}{k:cf}{S:St}:dJ L (⟨d,op,none⟩::os) keep k S=cu (op.run L d S) (dJ L os keep k):=by
 unfold dJ cu;simp only[fZ,bN.run];cases op.run L d S<;>simp
theorem gJ{L:bm}{o:bN}{os:List bN}{keep:cR}{k:cf}{S:St}:dJ L (o::os) keep k S=cu (o.run L S) (dJ L os keep k):=by
 unfold dJ cu;simp only[fZ];cases o.run L S<;>simp
def j0{α:Type}(c:Bool)(a b:α):α:=bif c then a else b
@[congr] theorem akQ{α:Type}{c c':Bool}{a a' b b':α}(hc:c=c')(ha:c'=true→a=a')(hb:c'=false→b=b'):j0 c a b=j0 c' a' b':=by
 subst hc;cases c
 ·exact hb rfl
 ·exact ha rfl
@[congr] theorem akR{α:Type}{p q:Prop}{dp:Decidable p}[dq:Decidable q]{a a' b b':α}(hc:p=q)(ha:q→a=a')(hb:¬q→b=b'):@j0 α (@decide p dp) a b=j0 (decide q) a' b':=by
 subst hc;by_cases h:p
 ·simp[j0,h,ha h]
 ·simp[j0,h,hb h]
theorem ma{a b:Int}:(a==b)=decide (a=b):=by by_cases h:a=b<;>simp[h]
theorem mb{a b:Int}:(a != b) = !decide (a=b):=by by_cases h:a=b<;>simp[h]
theorem mc{α:Type}{p:Prop}{dp:Decidable p}{a b:α}(h:p):(bif decide p then a else b)=a:=by simp[h]
@[simp] theorem akS{k:Int}:decide (k≤(lim:Int))=decide (k≤4294967296):=rfl
@[simp] theorem akT{k:Nat}:decide (k≤lim)=decide (k≤4294967296):=rfl
theorem me{α:Type}{p q:Prop}{dp:Decidable p}{dq:Decidable q}{a b:α}(h:p∧q):(bif decide p&&decide q then a else b)=a:=by simp[h.1,h.2]
@[simp] theorem akU{α:Type}{a b:α}:j0 true a b=a:=rfl
@[simp] theorem akV{α:Type}{a b:α}:j0 false a b=b:=rfl
@[simp] theorem akW{α:Type}{c:Bool}{a b:α}:j0 (!c) a b=j0 c b a:=by cases c<;>rfl
@[simp] theorem akX{α:Type}{c:Bool}{a b:α}:j0 c (some a) (some b)=some (j0 c a b):=by cases c<;>rfl
@[simp] theorem akY{c a b:Bool}:j0 c (V.bool a) (V.bool b)=V.bool (bif c then a else b):=by cases c<;>rfl
def iX(o:Option V)(w:Bool)(x:Option V):Option V :=
 match o with
 |some (.bool b)=>bif b==w then x else some .undef
 |some .undef=>some .undef
 |_=>none
@[simp] theorem akZ{b:Bool}{x:Option V}:iX (some (.bool b)) true x=j0 b x (some .undef):=by cases b<;>rfl
@[simp] theorem ak0{b:Bool}{x:Option V}:iX (some (.bool b)) false x=j0 b (some .undef) x:=by cases b<;>rfl
@[simp] theorem ak1{w:Bool}{x:Option V}:iX (some .undef) w x=some .undef:=rfl
@[simp] theorem ak2{c b w:Bool}{v:V}{x:Option V}:iX (some (j0 c (.bool b) v)) w x=j0 c (iX (some (.bool b)) w x) (iX (some v) w x):=by cases c<;>rfl
@[simp] theorem ak3{c b w:Bool}{v:V}{x:Option V}:iX (some (j0 c v (.bool b))) w x=j0 c (iX (some v) w x) (iX (some (.bool b)) w x):=by cases c<;>rfl
def v7(t:Option V)(x y:Option V):Option V:=match t with
 |some (.bool b)=>j0 b x y
 |_=>none
@[simp] theorem ak4{b:Bool}{x y:Option V}:v7 (some (.bool b)) x y=j0 b x y:=rfl
def jH(L:bm)(d:Nat)(S:St)(os:List bN)(keep:cR)(k:cf):V→Prop:=fun v=>dJ L os keep k (S.put (some d) v)
@[simp] theorem ak5{L:bm}{d:Nat}{S:St}{os:List bN}{keep:cR}{k:cf}{v:V}:jH L d S os keep k v=dJ L os keep k { S with env:=(d,v)::S.env }:=rfl
theorem nb{L:bm}{d g:Nat}{w:Bool}{op:VO}{x:Option V}{S:St}{os:List bN}{keep:cR}{k:cf}(ah:op.run L (some d) S=x.map (S.put (some d))) :
  cu (bN.run L ⟨some d,op,some (g,w)⟩ S) (dJ L os keep k)=cu (iX (look g S.env) w x) (jH L d S os keep k):=by
 unfold bN.run iX;simp only;cases look g S.env with
 |none=>simp[cu]
 |some v =>
  cases v with
  |bool b =>
   simp only[ah];cases b==w with
   |true=>cases x<;>simp[cu,jH]
   |false=>simp[cu,jH]
  |undef=>simp[cu,jH]
  |_=>simp[cu]
@[simp high] theorem ak6{L:bm}{d:Nat}{c a b:bj}{os:List bN}{keep:cR}{k:cf}{S:St} :
  dJ L (⟨some d,.pick c a b,none⟩::os) keep k S=cu (v7 (S.ev c) (S.ev a) (S.ev b)) (jH L d S os keep k):=by
 rw[gJ];simp only[bN.run,VO.run];rcases S.ev c with _|v
 ·simp[cu,v7]
 ·cases v with
  |bool t =>
   cases t
   ·simp only[v7,j0,cond_false]
    cases S.ev b<;>simp[cu,jH]
   ·simp only[v7,j0,cond_true]
    cases S.ev a<;>simp[cu,jH]
  |_=>simp[cu,v7]
@[simp] theorem ak7{L:bm}{d g:Nat}{w:Bool}{x:bj}{os:List bN}{keep:cR}{k:cf}{S:St} :
  dJ L (⟨some d,.mv x,some (g,w)⟩::os) keep k S=cu (iX (look g S.env) w (S.ev x)) (jH L d S os keep k):=by
 rw[gJ];refine nb ?_;simp only[VO.run]
 repeat' split
 all_goals (first|rfl|simp_all[St.put])
@[simp] theorem ak8{L:bm}{d g:Nat}{w:Bool}{c a b:bj}{os:List bN}{keep:cR}{k:cf}{S:St} :
  dJ L (⟨some d,.pick c a b,some (g,w)⟩::os) keep k S=cu (iX (look g S.env) w (v7 (S.ev c) (S.ev a) (S.ev b))) (jH L d S os keep k):=by
 rw[gJ];refine nb ?_;simp only[VO.run];rcases S.ev c with _|v
 ·rfl
 ·cases v with
  |bool t =>
   cases t
   ·simp only[v7,j0,cond_false]
    cases S.ev b<;>rfl
   ·simp only[v7,j0,cond_true]
    cases S.ev a<;>rfl
  |_=>rfl
@[simp] theorem ak9{L:bm}{d g:Nat}{w:Bool}{z:List V}{ps:List (Nat×Nat×bj)}{os:List bN}{keep:cR}{k:cf}{S:St} :
  dJ L (⟨some d,.build z ps,some (g,w)⟩::os) keep k S=cu (iX (look g S.env) w (match pf S ps z with|some cs=>some (.agg cs)|none=>none)) (jH L d S os keep k):=by
 rw[gJ];refine nb ?_;simp only[VO.run]
 repeat' split
 all_goals (first|rfl|simp_all[St.put])
@[simp] theorem ala{L:bm}{d g:Nat}{w:Bool}{r:iQ}{z:Option Nat}{p:bj}{os:List bN}{keep:cR}{k:cf}{S:St} :
  dJ L (⟨some d,.load r z p,some (g,w)⟩::os) keep k S=cu (iX (look g S.env) w (match S.ev p with|some v=>bif r.fits v then (match S.mR v with|some (cs,off)=>(loadAt z cs off).map (yk r)|none=>none) else none|none=>none)) (jH L d S os keep k):=by
 rw[gJ];refine nb ?_;simp only[VO.run];rcases S.ev p with _|v
 ·rfl
 ·simp only
  cases r.fits v with
  |false=>rfl
  |true =>
   rcases S.mR v with _ | ⟨cs,off⟩
   ·rfl
   ·simp only[cond_true]
    rcases loadAt z cs off with _|u<;>rfl
@[simp] theorem alb{L:bm}{d g:Nat}{w:Bool}{x:bj}{os:List bN}{keep:cR}{k:cf}{S:St} :
  dJ L (⟨some d,.rY x,some (g,w)⟩::os) keep k S=cu (iX (look g S.env) w (match S.ev x with|some (.bA i o)=>some (.bA i o)|some (.bB i o)=>some (.bB i o)|some (.eF r o)=>some (.eF r o)|_=>none)) (jH L d S os keep k):=by
 rw[gJ];refine nb ?_;simp only[VO.run]
 repeat' split
 all_goals (first|rfl|simp_all[St.put])
@[simp] theorem alc{L:bm}{d g:Nat}{w:Bool}{o:BinOp}{x y:bj}{os:List bN}{keep:cR}{k:cf}{S:St} :
  dJ L (⟨some d,.bin o x y,some (g,w)⟩::os) keep k S=cu (iX (look g S.env) w (match S.ev x,S.ev y with|some a,some b=>V.bin o a b|_,_=>none)) (jH L d S os keep k):=by
 rw[gJ];refine nb ?_;simp only[VO.run]
 repeat' split
 all_goals (first|rfl|simp_all[St.put])
@[simp] theorem ald{L:bm}{d g:Nat}{w:Bool}{n:Bool}{x y:bj}{os:List bN}{keep:cR}{k:cf}{S:St} :
  dJ L (⟨some d,.beq n x y,some (g,w)⟩::os) keep k S=cu (iX (look g S.env) w (match S.ev x,S.ev y with|some (.bool a),some (.bool b)=>some (.bool (bif n then a != b else a==b))|_,_=>none)) (jH L d S os keep k):=by
 rw[gJ];refine nb ?_;simp only[VO.run]
 repeat' split
 all_goals (first|rfl|simp_all[St.put])
@[simp] theorem ale{L:bm}{d g:Nat}{w:Bool}{n:Bool}{ks:List Nat}{x y:bj}{os:List bN}{keep:cR}{k:cf}{S:St} :
  dJ L (⟨some d,.iR n ks x y,some (g,w)⟩::os) keep k S=cu (iX (look g S.env) w (match S.ev x,S.ev y with|some a,some b=>V.iR n ks a b|_,_=>none)) (jH L d S os keep k):=by
 rw[gJ];refine nb ?_;simp only[VO.run]
 repeat' split
 all_goals (first|rfl|simp_all[St.put])
@[simp] theorem alf{L:bm}{d g:Nat}{w:Bool}{o:UnOp}{x:bj}{os:List bN}{keep:cR}{k:cf}{S:St} :
  dJ L (⟨some d,.un o x,some (g,w)⟩::os) keep k S=cu (iX (look g S.env) w (match S.ev x with|some a=>V.un o a|none=>none)) (jH L d S os keep k):=by
 rw[gJ];refine nb ?_;simp only[VO.run]
 repeat' split
 all_goals (first|rfl|simp_all[St.put])
@[simp] theorem alg{L:bm}{d g:Nat}{w:Bool}{kk:IntKind}{x:bj}{os:List bN}{keep:cR}{k:cf}{S:St} :
  dJ L (⟨some d,.conv kk x,some (g,w)⟩::os) keep k S=cu (iX (look g S.env) w (match S.ev x with|some (.int _ n)=>some (.int kk (kk.wrap n))|_=>none)) (jH L d S os keep k):=by
 rw[gJ];refine nb ?_;simp only[VO.run]
 repeat' split
 all_goals (first|rfl|simp_all[St.put])
@[simp] theorem alh{L:bm}{d g:Nat}{w:Bool}{n:Nat}{x:bj}{os:List bN}{keep:cR}{k:cf}{S:St} :
  dJ L (⟨some d,.r0 n x,some (g,w)⟩::os) keep k S=cu (iX (look g S.env) w (match S.ev x with|some (.bA i o)=>some (.bA i (o+n))|some (.bB i o)=>some (.bB i (o+n))|some (.eF r o)=>some (.eF r (o+n))|_=>none)) (jH L d S os keep k):=by
 rw[gJ];refine nb ?_;simp only[VO.run]
 repeat' split
 all_goals (first|rfl|simp_all[St.put])
@[simp] theorem ali{L:bm}{d g:Nat}{w:Bool}{x:bj}{os:List bN}{keep:cR}{k:cf}{S:St} :
  dJ L (⟨some d,.len x,some (g,w)⟩::os) keep k S=cu (iX (look g S.env) w (match S.ev x with|some .bW=>some (.int .i64 0)|some (.dH _)=>some (.int .i64 0)|some (.e8 _)=>some (.int .i64 0)|some (.slice _ _ es)=>some (.int .i64 es.length)|some (.bO _ _ n)=>some (.int .i64 n)|some (.df _ _ n)=>some (.int .i64 n)|_=>none)) (jH L d S os keep k):=by
 rw[gJ];refine nb ?_;simp only[VO.run]
 repeat' split
 all_goals (first|rfl|simp_all[St.put])
@[simp] theorem alj{L:bm}{d g:Nat}{w:Bool}{x:bj}{os:List bN}{keep:cR}{k:cf}{S:St} :
  dJ L (⟨some d,.r7 x,some (g,w)⟩::os) keep k S=cu (iX (look g S.env) w (match S.ev x with|some (.str s)=>some (.int .i64 s.length)|_=>none)) (jH L d S os keep k):=by
 rw[gJ];refine nb ?_;simp only[VO.run]
 repeat' split
 all_goals (first|rfl|simp_all[St.put])
@[simp] theorem alk{L:bm}{d g:Nat}{w:Bool}{x:bj}{i:Nat}{os:List bN}{keep:cR}{k:cf}{S:St} :
  dJ L (⟨some d,.ext x i,some (g,w)⟩::os) keep k S=cu (iX (look g S.env) w (match S.ev x with|some (.tuple vs)=>vs[i]? | _=>none)) (jH L d S os keep k):=by
 rw[gJ];refine nb ?_;simp only[VO.run]
 repeat' split
 all_goals (first|rfl|simp_all[St.put])
@[simp] theorem alm{L:bm}{d g:Nat}{w:Bool}{n:Nat}{z:Option Nat}{x:bj}{os:List bN}{keep:cR}{k:cf}{S:St} :
  dJ L (⟨some d,.field n z x,some (g,w)⟩::os) keep k S=cu (iX (look g S.env) w (match S.ev x with|some (.agg cs)=>loadAt z cs n|_=>none)) (jH L d S os keep k):=by
 rw[gJ];refine nb ?_;simp only[VO.run]
 repeat' split
 all_goals (first|rfl|simp_all[St.put])
@[simp] theorem aln{L:bm}{d g:Nat}{w:Bool}{m:Bool}{x y:bj}{os:List bN}{keep:cR}{k:cf}{S:St} :
  dJ L (⟨some d,.mm m x y,some (g,w)⟩::os) keep k S=cu (iX (look g S.env) w (match S.ev x,S.ev y with|some (.int k a),some (.int _ b)=>some (.int k (bif m then max a b else min a b))|_,_=>none)) (jH L d S os keep k):=by
 rw[gJ];refine nb ?_;simp only[VO.run];rcases S.ev x with _|a
 ·rfl
 ·rcases S.ev y with _|b
  ·cases a<;>rfl
  ·cases a<;>cases b<;>rfl
@[simp] theorem alo{L:bm}{d g:Nat}{w:Bool}{m:Bool}{x y z:bj}{os:List bN}{keep:cR}{k:cf}{S:St} :
  dJ L (⟨some d,.r9 m x y z,some (g,w)⟩::os) keep k S=cu (iX (look g S.env) w (match S.ev x,S.ev y,S.ev z with|some (.int k a),some (.int _ b),some (.int _ c)=>some (.int k (bif m then max (max a b) c else min (min a b) c))|_,_,_=>none)) (jH L d S os keep k):=by
 rw[gJ];refine nb ?_;simp only[VO.run];rcases S.ev x with _|a
 ·rfl
 ·rcases S.ev y with _|b
  ·cases a<;>rfl
  ·rcases S.ev z with _|c
   ·cases a<;>cases b<;>rfl
   ·cases a<;>cases b<;>cases c<;>rfl
@[simp] theorem alp{L:bm}{d g:Nat}{w:Bool}{n z:Nat}{a:Bool}{x i:bj}{os:List bN}{keep:cR}{k:cf}{S:St} :
  dJ L (⟨some d,.idx n z a x i,some (g,w)⟩::os) keep k S=cu (iX (look g S.env) w (match S.ev x,S.ev i with|some (.agg cs),some (.int _ k)=>bif decide (0≤k)&&decide (k<n) then loadAt (bif a then some z else none) cs (k.toNat*z) else none|_,_=>none)) (jH L d S os keep k):=by
 rw[gJ];refine nb ?_;simp only[VO.run];rcases S.ev x with _|v
 ·rfl
 ·rcases S.ev i with _|j
  ·cases v<;>rfl
  ·cases v with
   |agg cs =>
    cases j with
    |int kk m =>
     simp only;cases (decide (0≤m)&&decide (m<n)) with
     |false=>rfl
     |true =>
      simp only[cond_true];rcases loadAt (bif a then some z else none) cs (m.toNat*z) with _|u<;>rfl
    |_=>rfl
   |_=>cases j<;>rfl
@[simp] theorem alq{L:bm}{d g:Nat}{w:Bool}{n:Nat}{x i:bj}{os:List bN}{keep:cR}{k:cf}{S:St} :
  dJ L (⟨some d,.nA none n x i,some (g,w)⟩::os) keep k S=cu (iX (look g S.env) w (match S.ev x,S.ev i with
   |some (.slice _ m es),some (.int _ k)=>bif decide (0≤k)&&(m==n) then (match es[k.toNat]? with|some r=>some (.eF r 0)|none=>none) else none
   |some (.bO id off ln),some (.int _ k)=>bif decide (0≤k)&&decide (k<ln)&&(off==n) then some (.bA id (k.toNat*n)) else none
   |some (.df id off ln),some (.int _ k)=>bif decide (0≤k)&&decide (k<ln)&&(off==n) then some (.bB id (k.toNat*n)) else none
   |_,_=>none)) (jH L d S os keep k):=by
 rw[gJ];refine nb ?_;simp only[VO.run];rcases S.ev x with _|v
 ·rfl
 ·rcases S.ev i with _|j
  ·cases v<;>rfl
  ·cases v with
   |slice t m es =>
    cases j with
    |int kk q =>
     simp only;cases (decide (0≤q)&&(m==n)) with
     |false=>rfl
     |true =>
      simp only[cond_true];rcases es[q.toNat]? with _|u<;>rfl
    |_=>rfl
   |bO id off ln =>
    cases j with
    |int kk q =>
     simp only;cases (decide (0≤q)&&decide (q<ln)&&(off==n)) with
     |false=>rfl
     |true=>rfl
    |_=>rfl
   |df id off ln =>
    cases j with
    |int kk q =>
     simp only;cases (decide (0≤q)&&decide (q<ln)&&(off==n)) with
     |false=>rfl
     |true=>rfl
    |_=>rfl
   |_=>cases j<;>rfl
def nth{α:Type}[Inhabited α](l:List α)(i:Nat):α:=l.getD i default
theorem bb{α:Type}[Inhabited α]{l:List α}{i:Nat}(h:i<l.length):l[i]?=some (nth l i):=by
 simp[nth,List.getD,h]
theorem dD{l:List Int}{i:Nat}(h:i<l.length):l[i]?=some (nth l i):=bb h
def lk{α:Type}(b:Bool)(v:α)(s:Nat)(r:List (Nat×α)):Option α:=bif b then some v else look s r
@[simp] theorem alr{α:Type}{s k:Nat}{v:α}{r:List (Nat×α)}:look s ((k,v)::r)=lk (k==s) v s r:=rfl
@[simp] theorem als{α:Type}{s:Nat}:look s ([]:List (Nat×α))=none:=rfl
@[simp] theorem alu{α:Type}{s:Nat}{v:α}{r:List (Nat×α)}:lk true v s r=some v:=rfl
@[simp] theorem alv{α:Type}{s:Nat}{v:α}{r:List (Nat×α)}:lk false v s r=look s r:=rfl
def tU{α:Type}(d:Nat)(l:List (Nat×α)):List (Nat×α):=l.filter fun p => !(p.1==d)
def FK{α:Type}(b:Bool)(k:Nat)(v:α)(r:List (Nat×α)):List (Nat×α):=bif b then r else (k,v)::r
@[simp] theorem alw{α:Type}{k:Nat}{v:α}{r:List (Nat×α)}:FK true k v r=r:=rfl
@[simp] theorem alx{α:Type}{k:Nat}{v:α}{r:List (Nat×α)}:FK false k v r=(k,v)::r:=rfl
@[simp] theorem aly{α:Type}{d:Nat}:tU d ([]:List (Nat×α))=[]:=rfl
@[simp] theorem alz{α:Type}{d k:Nat}{v:α}{r:List (Nat×α)}:tU d ((k,v)::r)=FK (k==d) k v (tU d r):=by
 unfold tU FK;cases h:k==d<;>simp[List.filter,h]
@[simp] theorem alA{α:Type}{d:Nat}{l:List (Nat×α)}:(l.filter fun p => !(p.1==d))=tU d l:=rfl
@[simp] theorem alB{S:St}:S.clean []=some S:=rfl
@[simp] theorem alC{S:St}{d:Nat}{ds:List Nat}:S.clean (d::ds)=bif ((tU d S.env).all fun p => !p.2.ca d)&&((tU d S.aV).all fun p=>p.2.all fun v => !v.cj d) then
  St.clean { env:=tU d S.env,aV:=tU d S.aV,a7:=tU d S.a7,ay:=S.ay } ds else none:=rfl
theorem CQ{α β:Type}{a:α}{b:β}{k:α→β→Prop}:(∃e T,(a=e∧b=T)∧k e T)↔k a b :=
 ⟨fun⟨_,_,⟨h,h'⟩,hk⟩=>by subst h;subst h';exact hk,fun h=>⟨_,_,⟨rfl,rfl⟩,h⟩⟩
def P9(L:bm)(ids:List Nat)(os:List bN)(keep:cR)(k:cf):St→Prop:=fun S=>cu (S.clean ids) (dJ L os keep k)
@[simp] theorem aaM{L:bm}{ids:List Nat}{os:List bN}{keep:cR}{k:cf}{S:St}:P9 L ids os keep k S=cu (S.clean ids) (dJ L os keep k):=rfl
@[simp] theorem alD{L:bm}{gh:List hY}{S:St}{k:cf}:go L (.yi gh) S k=cu (mB gh S) (k .ret):=by
 refine propext ⟨?_,?_⟩
 ·rintro⟨n,e,T,h,hk⟩
  simp only[VC.run]at h;split at h
  ·rename_i S' h1;cases h;exact⟨_,h1,hk⟩
  ·cases h
 ·rintro⟨S',h1,hk⟩
  exact⟨0,_,_,by simp only[VC.run,h1],hk⟩
@[simp] theorem alE{L:bm}{S:St}{k:cf}:go L .dead S k=False:=by simp[go,VC.run,CQ]
@[simp] theorem go_skip{L:bm}{S:St}{k:cf}:go L .skip S k=k .normal S:=by simp[go,VC.run,CQ]
@[simp] theorem alF{L:bm}{S:St}{k:cf}{i:Nat}:go L (.exit i) S k=k (.exit i) S:=by simp[go,VC.run,CQ]
@[simp] theorem go_ret{L:bm}{S:St}{k:cf}:go L .ret S k=k .ret S:=by simp[go,VC.run,CQ]
@[simp] theorem go_region{L:bm}{gh:List hY}{ids:List Nat}{os:List bN}{keep:cR}{S:St}{k:cf} :
  go L (.region gh ids os keep) S k=cu (mB gh S) (P9 L ids os keep k):=by
 unfold go cu;simp only[VC.run,aaM];cases mB gh S with
 |none=>simp
 |some S1 =>
  simp only[Option.some.injEq,exists_eq_left',cu];cases S1.clean ids with
  |none=>simp
  |some S2 =>
   simp only[Option.some.injEq,exists_eq_left',dJ];cases fZ L os S2 with
   |none=>simp
   |some S3=>simp[CQ]
@[simp] theorem alG{L:bm}{a b:VC}{S:St}{k:cf}:go L (.seq a b) S k=go L a S (sq L b k):=by
 refine propext ⟨?_,?_⟩
 ·rintro⟨n,e,T,h,hk⟩
  simp only[VC.run]at h;split at h
  ·rename_i S' h1;exact⟨n,_,_,h1,n,_,_,h,hk⟩
  ·rename_i i S' h1;cases h;exact⟨n,_,_,h1,hk⟩
  ·rename_i S' h1;cases h;exact⟨n,_,_,h1,hk⟩
  ·cases h
 ·rintro⟨n,e,T,h,hk⟩
  cases e with
  |normal =>
   obtain⟨m,e,T',h',hk⟩:=hk;refine⟨n+m,e,T',?_,hk⟩;simp only[VC.run,u3 (Nat.le_add_right n m) h,u3 (Nat.le_add_left m n) h']
  |exit i=>exact⟨n,_,_,by simp only[VC.run,h],hk⟩
  |ret=>exact⟨n,_,_,by simp only[VC.run,h],hk⟩
@[simp] theorem alH{L:bm}{c:bj}{a b:VC}{S:St}{k:cf}:go L (.cond c a b) S k=sO (S.ev c) (go L a S k) (go L b S k):=by
 refine propext ⟨?_,?_⟩
 ·rintro⟨n,e,T,h,hk⟩
  simp only[VC.run]at h;split at h
  ·rename_i t hc
   refine⟨t,hc,?_⟩;cases t with
   |true=>exact⟨n,e,T,h,hk⟩
   |false=>exact⟨n,e,T,h,hk⟩
  ·cases h
 ·rintro⟨t,hc,h⟩
  cases t with
  |true=>obtain⟨n,e,T,h,hk⟩:=h;exact⟨n,e,T,by simp only[VC.run,hc,cond_true];exact h,hk⟩
  |false=>obtain⟨n,e,T,h,hk⟩:=h;exact⟨n,e,T,by simp only[VC.run,hc,cond_false];exact h,hk⟩
@[simp] theorem alI{L:bm}{id:Nat}{a:VC}{S:St}{k:cf}:go L (.block id a) S k=go L a S (bk id k):=by
 refine propext ⟨?_,?_⟩
 ·rintro⟨n,e,T,h,hk⟩
  simp only[VC.run]at h;split at h
  ·rename_i S' h1;cases h;exact⟨n,_,_,h1,hk⟩
  ·rename_i i S' h1
   refine⟨n,_,_,h1,?_⟩;cases hi:i==id with
   |true=>simp only[hi,cond_true]at h;cases h;simp only[bk,hi,cond_true];exact hk
   |false=>simp only[hi,cond_false]at h;cases h;simp only[bk,hi,cond_false];exact hk
  ·rename_i S' h1;cases h;exact⟨n,_,_,h1,hk⟩
  ·cases h
 ·rintro⟨n,e,T,h,hk⟩
  cases e with
  |normal=>exact⟨n,_,_,by simp only[VC.run,h],hk⟩
  |exit i =>
   cases hi:i==id with
   |true=>simp only[bk,hi,cond_true]at hk;exact⟨n,_,_,by simp only[VC.run,h,hi,cond_true],hk⟩
   |false=>simp only[bk,hi,cond_false]at hk;exact⟨n,_,_,by simp only[VC.run,h,hi,cond_false],hk⟩
  |ret=>exact⟨n,_,_,by simp only[VC.run,h],hk⟩
def FL{α:Type}(keep:cR)(st:α→St)(I:α→Prop)(mu:α→Nat)(m:Nat)(k:cf):cf:=fun e T=>match e with
 |.normal=>∃y,T.keep keep=st y∧I y∧mu y<m
 |.exit i=>k (.exit i) T
 |.ret=>k .ret T
@[simp] theorem alJ{α:Type}{keep:cR}{st:α→St}{I:α→Prop}{mu:α→Nat}{m:Nat}{k:cf}{T:St}{i:Nat}:FL keep st I mu m k (.exit i) T=k (.exit i) T:=rfl
@[simp] theorem alK{α:Type}{keep:cR}{st:α→St}{I:α→Prop}{mu:α→Nat}{m:Nat}{k:cf}{T:St}:FL keep st I mu m k .ret T=k .ret T:=rfl
theorem bL{α:Type}{keep:cR}{st:α→St}{I:α→Prop}{mu:α→Nat}{m:Nat}{k:cf}{T:St}(y:α)(h:T.keep keep=st y)(hi:I y)(hm:mu y<m):FL keep st I mu m k .normal T:=⟨y,h,hi,hm⟩
theorem go_loop{α:Type}{L:bm}{c:VC}{gh:List hY}{keep:cR}{a:VC}{k:cf}{S:St}(st:α→St)(I:α→Prop)(mu:α→Nat)(x:α)(hc:c=.loop gh keep a)(hS:cu (mB gh S) fun S=>S.keep keep=st x)(hI:I x)
  (step:∀x,I x→go L a (st x) (FL keep st I mu (mu x) k)):go L c S k:=by
 subst hc;obtain⟨S1,hg,hS⟩:=hS
 suffices h:∀m x S,S.keep keep=st x→mu x<m→I x→∃n e T,iter (fun S=>VC.run L n a (S.keep keep)) n S=some (e,T)∧k e T by
  obtain⟨n,e,T,h1,h2⟩:=h (mu x+1) x S1 hS (by omega) hI
  exact⟨n,e,T,by simp only[VC.run,hg];exact h1,h2⟩
 intro m;induction m with
 |zero=>intro x S _ h;omega
 |succ m ih =>
  intro x S hS hm hI;obtain⟨n,e,T,h1,h2⟩:=step x hI;rw[←hS]at h1;cases e with
  |normal =>
   obtain⟨y,hT,hy,br⟩:=h2;obtain⟨n',e,T,h3,h4⟩:=ih y T hT (by omega) hy
   refine⟨n+n'+1,e,T,?_,h4⟩;simp only[iter];rw[u3 (by omega) h1]
   exact CK (fun S x h=>u3 (by omega) h) (by omega) h3
  |exit i=>exact⟨n+1,_,_,by simp only[iter];rw[u3 (by omega) h1],h2⟩
  |ret=>exact⟨n+1,_,_,by simp only[iter];rw[u3 (by omega) h1],h2⟩
def gY(L:bm)(f:FuncId)(args:List V)(G:List aP)(Q:V→List aP→Prop):Prop:=∃r G',L f args G=some (r,G')∧Q r G'
def v8(rs:List qa)(Q:V→List aP→Prop):cf:=fun e T=>match e with
 |.normal=>cu (tA T rs) fun v=>Q v T.ay
 |.ret=>cu (tA T rs) fun v=>Q v T.ay
 |.exit _=>False
@[simp] theorem alL{rs:List qa}{Q:V→List aP→Prop}{T:St}:v8 rs Q .normal T=cu (tA T rs) fun v=>Q v T.ay:=rfl
@[simp] theorem alM{rs:List qa}{Q:V→List aP→Prop}{T:St}:v8 rs Q .ret T=cu (tA T rs) fun v=>Q v T.ay:=rfl
theorem iu{F:FuncId→Option ba}{f:FuncId}{vf:ba}(hf:F f=some vf){args:List V}{G:List aP}{Q:V→List aP→Prop}(hl:(args.length==vf.nparams&&vf.defs.isEmpty&&vf.split.isNone)=true)
  (h:go (a8 F) vf.body { env:=nX 0 args,aV:=[],a7:=[],ay:=G } (v8 vf.results Q)):gY (a8 F) f args G Q:=by
 simp only[Bool.and_eq_true,List.isEmpty_iff,Option.isNone_iff_eq_none]at hl;obtain⟨⟨hl,hd⟩,hs⟩:=hl;obtain⟨n,e,T,h1,h2⟩:=h;cases e with
 |exit i=>exact h2.elim
 |normal =>
  obtain⟨v,h3,h4⟩:=h2;exact⟨v,T.ay,PU hf (n:=n) hd hs (by simp only[ba.call,hl,cond_true,h1,h3]),h4⟩
 |ret =>
  obtain⟨v,h3,h4⟩:=h2;exact⟨v,T.ay,PU hf (n:=n) hd hs (by simp only[ba.call,hl,cond_true,h1,h3]),h4⟩
theorem aaN{F:FuncId→Option ba}{f:FuncId}{vf:ba}(hf:F f=some vf){i off:Nat}{G:List aP}{Q:V→List aP→Prop}(hl:(1==vf.nparams && !vf.defs.isEmpty&&vf.split.isNone)=true)
  (h:go (a8 F) vf.body { env:=nX 0 [.bB i off],aV:=[],a7:=[],ay:=G } (v8 vf.results fun _ G1=>∃G2,nY (a8 F) [.bB i off] vf.defs.reverse G1=some G2∧Q (.tuple []) G2)):gY (a8 F) f [.bB i off] G Q:=by
 simp only[Bool.and_eq_true,Bool.not_eq_true',List.isEmpty_eq_false_iff,Option.isNone_iff_eq_none]at hl;obtain⟨⟨hl,hd⟩,hs⟩:=hl;obtain⟨n,e,T,h1,h2⟩:=h;cases e with
 |exit i=>exact h2.elim
 |normal =>
  obtain⟨v,h3,G2,h4,h5⟩:=h2;exact⟨_,G2,PX hf (n:=n) hd hs (r:=v) (by simp only[ba.call,List.length_singleton,hl,cond_true,h1,h3]) h4,h5⟩
 |ret =>
  obtain⟨v,h3,G2,h4,h5⟩:=h2;exact⟨_,G2,PX hf (n:=n) hd hs (r:=v) (by simp only[ba.call,List.length_singleton,hl,cond_true,h1,h3]) h4,h5⟩
theorem bV{F:FuncId→Option ba}{f:FuncId}{vf:ba}(hf:F f=some vf){args:List V}{G G':List aP}{r:V}(hl:(args.length==vf.nparams&&vf.defs.isEmpty&&vf.split.isNone)=true)
  (h:go (a8 F) vf.body { env:=nX 0 args,aV:=[],a7:=[],ay:=G } (v8 vf.results fun v G1=>v=r∧G1=G')):a8 F f args G=some (r,G'):=by
 obtain⟨_,_,h1,rfl,rfl⟩:=iu hf hl h;exact h1
theorem JM{F:FuncId→Option ba}{f:FuncId}{vf:ba}(hf:F f=some vf){args:List V}{G G':List aP}{r:V}{p m:Nat}(hl:(args.length==vf.nparams&&vf.defs.isEmpty)=true)(hs:vf.split=some p)(hp:args[p]?=some (.slice none m []))
  (h:go (a8 F) vf.body { env:=nX 0 (args.set p .bW),aV:=[],a7:=[],ay:=G } (v8 vf.results fun v G1=>v=r∧G1=G'))
  (h':go (a8 F) vf.body { env:=nX 0 (args.set p (.e8 m)),aV:=[],a7:=[],ay:=G } (v8 vf.results fun v G1=>v=r∧G1=G')):a8 F f args G=some (r,G'):=by
 simp only[Bool.and_eq_true,List.isEmpty_iff]at hl;obtain⟨hl,hd⟩:=hl;have key:∀u,go (a8 F) vf.body { env:=nX 0 (args.set p u),aV:=[],a7:=[],ay:=G } (v8 vf.results fun v G1=>v=r∧G1=G')→∃n,vf.call (a8 F) n (args.set p u) G=some (r,G'):=fun u h=>by
  obtain⟨n,e,T,h1,h2⟩:=h;have Qa:((args.set p u).length==vf.nparams)=true:=by rw[List.length_set];exact hl
  cases e with
  |exit i=>exact h2.elim
  |normal =>
   obtain⟨v,h3,rfl,rfl⟩:=h2;exact⟨n,by simp only[ba.call,Qa,cond_true,h1,h3]⟩
  |ret =>
   obtain⟨v,h3,rfl,rfl⟩:=h2;exact⟨n,by simp only[ba.call,Qa,cond_true,h1,h3]⟩
 obtain⟨n,h1⟩:=key _ h;obtain⟨k,h2⟩:=key _ h';exact aaC hf hd hs hp h1 h2
theorem JN{F:FuncId→Option ba}{f:FuncId}{vf:ba}(hf:F f=some vf){args:List V}{G G':List aP}{r:V}{p:Nat}(hl:(args.length==vf.nparams&&vf.defs.isEmpty)=true)(hs:vf.split=some p)(hp:∀m,args[p]?≠some (.slice none m []))
  (h:go (a8 F) vf.body { env:=nX 0 args,aV:=[],a7:=[],ay:=G } (v8 vf.results fun v G1=>v=r∧G1=G')):a8 F f args G=some (r,G'):=by
 simp only[Bool.and_eq_true,List.isEmpty_iff]at hl;obtain⟨hl,hd⟩:=hl;obtain⟨n,e,T,h1,h2⟩:=h;cases e with
 |exit i=>exact h2.elim
 |normal =>
  obtain⟨v,h3,rfl,rfl⟩:=h2;exact PV hf (n:=n) hd hs hp (by simp only[ba.call,hl,cond_true,h1,h3])
 |ret =>
  obtain⟨v,h3,rfl,rfl⟩:=h2;exact PV hf (n:=n) hd hs hp (by simp only[ba.call,hl,cond_true,h1,h3])
abbrev i64(n:Int):V:=.int .i64 n
theorem wrap64{n:Int}(h1:-9223372036854775808≤n)(h2:n≤9223372036854775807):IntKind.i64.wrap n=n:=by
 simp[IntKind.wrap,IntKind.bits,IntKind.signed];omega
def rep{α:Type}(n:Nat)(x:α):List α:=List.replicate n x
@[simp] theorem alN{α:Type}{n:Nat}{x:α}:(rep n x).length=n:=by simp[rep]
def eA(n:Nat)(f:Nat→Int):List V:=(List.range n).map fun j=>.int .i64 (f j)
@[simp] theorem alO{n:Nat}{f:Nat→Int}:(eA n f).length=n:=by simp[eA]
theorem JO{n:Nat}{f g:Nat→Int}(h:∀j,j<n→f j=g j):eA n f=eA n g:=by
 unfold eA;apply List.map_congr_left;intro j hj;rw[h j (by simpa using hj)]
theorem nL{n:Nat}{f:Nat→Int}{i:Nat}(h:i<n):(eA n f)[i]?=some (.int .i64 (f i)):=by simp[eA,h]
@[simp] theorem alP{n:Nat}{f:Nat→Int}{i:Nat}{v:Int}:(eA n f).set i (.int .i64 v)=eA n fun j=>if j=i then v else f j:=by
 apply List.ext_getElem?;intro k;by_cases hk:k<n
 ·by_cases h:i=k
  ·subst h
   rw[List.getElem?_set_self (by simpa using hk),nL hk]
   simp
  ·rw[List.getElem?_set_ne h,nL hk,nL hk,if_neg (fun e=>h e.symm)]
 ·rw[List.getElem?_eq_none (by simp;omega),List.getElem?_eq_none (by simp;omega)]
@[simp] theorem alQ{n:Nat}{f:Nat→Int}:(eA n f).all V.cz=true:=by
 simp[eA,V.cz]
@[simp] theorem alR{n:Nat}{f:Nat→Int}{d:Nat}:(eA n f).all (fun v => !v.cj d)=true:=by
 simp[eA,V.cj]
@[simp] theorem alS{n:Nat}{f:Nat→Int}:(eA n f).all V.gW=true:=by
 simp[eA,V.gW,V.plain]
@[simp] theorem alT{n:Nat}{f:Nat→Int}:(eA n f).map gq=eA n f:=by
 simp[eA,gq]
@[simp] theorem alU{n:Nat}{f:Nat→Int}:(eA n f).map strip=eA n f:=by
 simp[eA,strip,gq]
@[simp] theorem alV{n:Nat}{f:Nat→Int}{d:Nat}:(eA n f).any (V.cj d)=false:=by
 simp[eA,V.cj]
@[simp] theorem aaO{n:Nat}{f:Nat→Int}:(eA n f).take n=eA n f:=List.take_of_length_le (by simp)
theorem Qb{S:St}{used:List Nat}{α:Type}(g:α→Int):∀l:List α,lT S (List.replicate l.length none) used (l.map fun j=>.int .i64 (g j))=some (l.map fun j=>.int .i64 (g j),used)
 |[]=>rfl
 |a::l=>by simp[List.replicate_succ,lT,wV,nU,el,Qb g l]
@[simp] theorem alW{S:St}{used:List Nat}{n:Nat}{f:Nat→Int}:lT S (rep n none) used (eA n f)=some (eA n f,used):=by
 unfold rep;have:=Qb (S:=S) (used:=used) f (List.range n)
 rwa [List.length_range]at this
@[simp] theorem Qc{n:Nat}:rep n (V.int .i64 0)=eA n fun _=>0:=by
 simp[rep,eA,List.map_const']
theorem Qd:∀(cs:List V) (off:Nat) (vs:List V),off+vs.length≤cs.length→iC cs off vs=cs.take off++vs++cs.drop (off+vs.length)
 |cs,off,[],h=>by simp[iC]
 |cs,off,v::vs,h=>by
  simp only[List.length_cons]at h;rw[iC,Qd _ _ _ (by simp;omega)]
  apply List.ext_getElem?;intro i;simp only[List.length_cons,List.getElem?_append,List.length_take,List.length_append,List.length_set,List.getElem?_take,List.getElem?_set,List.getElem?_drop,List.getElem?_cons];rcases Nat.lt_trichotomy i off with h1|h1|h1
  ·simp (disch:=omega) [h1,if_pos,if_neg]
  ·subst h1
   grind
  ·grind
theorem aaP{cs vs:List V}(h:vs.length=cs.length):iC cs 0 vs=vs:=by
 rw[Qd _ _ _ (by omega)]
 simp[h]
@[simp] theorem alX{n:Nat}{f g:Nat→Int}:iC (eA n f) 0 (eA n g)=eA n g:=aaP (by simp)
@[simp] theorem sm0{d:Nat} :
  V.cj d .undef=false ∧
  V.dg d .undef=false ∧
  V.ca d .undef=false ∧
  V.cj d .bW=false ∧
  V.dg d .bW=false ∧
  V.ca d .bW=false ∧
  V.cj d .ft=false ∧
  V.dg d .ft=false ∧
  V.ca d .ft=false ∧
  V.cj d .fu=false ∧
  V.dg d .fu=false ∧
  V.ca d .fu=false ∧
  V.cj d .fw=false ∧
  V.dg d .fw=false ∧
  V.ca d .fw=false:=by and_intros<;>rfl
@[simp] theorem sm1  :
  V.cz .undef=false ∧
  V.cells .undef=[.undef] ∧
  V.plain .undef=false ∧
  V.gW .undef=false ∧
  V.hZ .undef=false ∧
  V.lone .undef=false ∧
  gq .undef=.undef ∧
  strip .undef=.undef ∧
  V.cz .bW=true ∧
  V.cells .bW=[.bW] ∧
  V.plain .bW=true ∧
  V.gW .bW=true ∧
  V.hZ .bW=true ∧
  V.lone .bW=true ∧
  gq .bW=.bW ∧
  strip .bW=.bW ∧
  V.cz .ft=true ∧
  V.cells .ft=[.ft] ∧
  V.plain .ft=false ∧
  V.gW .ft=false ∧
  V.hZ .ft=false ∧
  V.lone .ft=false ∧
  gq .ft=.ft ∧
  strip .ft=.ft ∧
  V.cz .fu=true ∧
  V.cells .fu=[.fu] ∧
  V.plain .fu=false ∧
  V.gW .fu=false ∧
  V.hZ .fu=false ∧
  V.lone .fu=false ∧
  gq .fu=.fu ∧
  strip .fu=.fu ∧
  V.cz .fw=true ∧
  V.cells .fw=[.fw] ∧
  V.plain .fw=false ∧
  V.gW .fw=false ∧
  V.hZ .fw=false ∧
  V.lone .fw=false ∧
  gq .fw=.fw ∧
  strip .fw=.fw ∧
  V.jF .bW=.bW ∧
  V.kh .bW=.bW ∧
  V.jF .ft=.ft ∧
  V.kh .ft=.ft ∧
  V.jF .fu=.fu ∧
  V.kh .fu=.fu ∧
  V.jF .fw=.fw ∧
  V.kh .fw=.fw:=by and_intros<;>rfl
@[simp] theorem sm2{k:IntKind}{n:Int}{d:Nat} :
  V.cj d (.int k n)=false ∧
  V.dg d (.int k n)=false ∧
  V.ca d (.int k n)=false:=by and_intros<;>rfl
@[simp] theorem sm3{k:IntKind}{n:Int} :
  V.cz (.int k n)=true ∧
  V.cells (.int k n)=[.int k n] ∧
  V.plain (.int k n)=true ∧
  V.gW (.int k n)=true ∧
  V.hZ (.int k n)=true ∧
  V.lone (.int k n)=true ∧
  gq (.int k n)=.int k n ∧
  strip (.int k n)=.int k n ∧
  V.jF (.int k n)=.int k n ∧
  V.kh (.int k n)=.int k n:=by and_intros<;>rfl
@[simp] theorem sm4{b:Bool}{d:Nat} :
  V.cj d (.bool b)=false ∧
  V.dg d (.bool b)=false ∧
  V.ca d (.bool b)=false:=by and_intros<;>rfl
@[simp] theorem sm5{b:Bool} :
  V.cz (.bool b)=true ∧
  V.cells (.bool b)=[.bool b] ∧
  V.plain (.bool b)=true ∧
  V.gW (.bool b)=true ∧
  V.hZ (.bool b)=true ∧
  V.lone (.bool b)=true ∧
  gq (.bool b)=.bool b ∧
  strip (.bool b)=.bool b ∧
  V.jF (.bool b)=.bool b ∧
  V.kh (.bool b)=.bool b:=by and_intros<;>rfl
@[simp] theorem sm6{s:List UInt8}{d:Nat} :
  V.cj d (.str s)=false ∧
  V.dg d (.str s)=false ∧
  V.ca d (.str s)=false:=by and_intros<;>rfl
@[simp] theorem sm7{s:List UInt8} :
  V.cz (.str s)=true ∧
  V.cells (.str s)=[.str s] ∧
  V.plain (.str s)=true ∧
  V.gW (.str s)=true ∧
  V.hZ (.str s)=true ∧
  V.lone (.str s)=true ∧
  gq (.str s)=.str s ∧
  strip (.str s)=.str s ∧
  V.jF (.str s)=.str s ∧
  V.kh (.str s)=.str s:=by and_intros<;>rfl
@[simp] theorem sm8{z:Nat}{es:List (List V)}{d:Nat} :
  V.cj d (.slice none z es)=false ∧
  V.dg d (.slice none z es)=false ∧
  V.ca d (.slice none z es)=false:=by and_intros<;>rfl
@[simp] theorem sm9{z:Nat}{es:List (List V)} :
  V.cz (.slice none z es)=true ∧
  V.cells (.slice none z es)=[.slice none z es] ∧
  V.plain (.slice none z es)=true ∧
  V.gW (.slice none z es)=true ∧
  V.hZ (.slice none z es)=true ∧
  V.lone (.slice none z es)=true ∧
  gq (.slice none z es)=.slice none z es ∧
  strip (.slice none z es)=.slice none z es:=by and_intros<;>rfl
@[simp] theorem al8{t z:Nat}{es:List (List V)}{d:Nat} :
  V.cj d (.slice (some t) z es:V)=(t==d) ∧
  V.dg d (.slice (some t) z es:V)=(t==d) ∧
  V.ca d (.slice (some t) z es:V)=(t==d):=by and_intros<;>rfl
@[simp] theorem al9{t z:Nat}{es:List (List V)} :
  V.cz (.slice (some t) z es:V)=true ∧
  V.cells (.slice (some t) z es:V)=[.slice (some t) z es] ∧
  V.plain (.slice (some t) z es:V)=false ∧
  V.gW (.slice (some t) z es:V)=true ∧
  V.hZ (.slice (some t) z es:V)=true ∧
  V.lone (.slice (some t) z es:V)=true ∧
  gq (.slice (some t) z es:V)=.slice none z es ∧
  strip (.slice (some t) z es:V)=.slice none z es:=by and_intros<;>rfl
@[simp] theorem ama{cs:List V}{d:Nat} :
  V.cj d (.agg cs)=true ∧
  V.dg d (.agg cs)=cs.any (V.cj d) ∧
  V.ca d (.agg cs)=cs.any (V.cj d):=by and_intros<;>rfl
@[simp] theorem amb{cs:List V} :
  V.cz (.agg cs)=false ∧
  V.cells (.agg cs)=cs ∧
  V.plain (.agg cs)=false ∧
  V.gW (.agg cs)=false ∧
  V.hZ (.agg cs)=cs.all V.gW ∧
  V.lone (.agg cs)=cs.all V.gW ∧
  gq (.agg cs)=.agg cs ∧
  strip (.agg cs)=.agg (cs.map gq) ∧
  V.kh (.agg cs)=.agg (cs.map V.jF):=by and_intros<;>rfl
@[simp] theorem amc{vs:List V}{d:Nat} :
  V.cj d (.tuple vs)=true ∧
  V.dg d (.tuple vs)=true ∧
  V.ca d (.tuple vs)=vs.any (V.dg d):=by and_intros<;>rfl
@[simp] theorem amd{vs:List V} :
  V.cz (.tuple vs)=false ∧
  V.cells (.tuple vs)=[.tuple vs] ∧
  V.plain (.tuple vs)=false ∧
  V.gW (.tuple vs)=false ∧
  V.hZ (.tuple vs)=false ∧
  V.lone (.tuple vs)=vs.all V.hZ ∧
  gq (.tuple vs)=.tuple vs ∧
  strip (.tuple vs)=.tuple vs:=by and_intros<;>rfl
@[simp] theorem ame{r:List V}{o:Nat}{d:Nat} :
  V.cj d (.eF r o)=false ∧
  V.dg d (.eF r o)=false ∧
  V.ca d (.eF r o)=false:=by and_intros<;>rfl
@[simp] theorem amf{r:List V}{o:Nat} :
  V.cz (.eF r o)=true ∧
  V.cells (.eF r o)=[.eF r o] ∧
  V.plain (.eF r o)=false ∧
  V.gW (.eF r o)=false ∧
  V.hZ (.eF r o)=false ∧
  V.lone (.eF r o)=false ∧
  gq (.eF r o)=.eF r o ∧
  strip (.eF r o)=.eF r o:=by and_intros<;>rfl
@[simp] theorem amg{i o:Nat}{d:Nat} :
  V.cj d (.bA i o)=(i==d) ∧
  V.dg d (.bA i o)=(i==d) ∧
  V.ca d (.bA i o)=(i==d) ∧
  V.cj d (.bB i o)=false ∧
  V.dg d (.bB i o)=false ∧
  V.ca d (.bB i o)=false:=by and_intros<;>rfl
@[simp] theorem amh{i o:Nat} :
  V.cz (.bA i o)=true ∧
  V.cells (.bA i o)=[.bA i o] ∧
  V.plain (.bA i o)=false ∧
  V.gW (.bA i o)=false ∧
  V.hZ (.bA i o)=false ∧
  V.lone (.bA i o)=false ∧
  gq (.bA i o)=.bA i o ∧
  strip (.bA i o)=.bA i o ∧
  V.cz (.bB i o)=true ∧
  V.cells (.bB i o)=[.bB i o] ∧
  V.plain (.bB i o)=false ∧
  V.gW (.bB i o)=false ∧
  V.hZ (.bB i o)=false ∧
  V.lone (.bB i o)=false ∧
  gq (.bB i o)=.bB i o ∧
  strip (.bB i o)=.bB i o ∧
  V.jF (.bB i o)=.bB i o ∧
  V.kh (.bB i o)=.bB i o:=by and_intros<;>rfl
@[simp] theorem ami{i o l:Nat}{d:Nat} :
  V.cj d (.bO i o l)=(i==d) ∧
  V.dg d (.bO i o l)=(i==d) ∧
  V.ca d (.bO i o l)=(i==d):=by and_intros<;>rfl
@[simp] theorem amj{i o l:Nat} :
  V.cz (.bO i o l)=true ∧
  V.cells (.bO i o l)=[.bO i o l] ∧
  V.plain (.bO i o l)=false ∧
  V.gW (.bO i o l)=false ∧
  V.hZ (.bO i o l)=false ∧
  V.lone (.bO i o l)=false ∧
  gq (.bO i o l)=.bO i o l ∧
  strip (.bO i o l)=.bO i o l ∧
  V.jF (.bO i o l)=.bO i o l ∧
  V.kh (.bO i o l)=.bO i o l:=by and_intros<;>rfl
@[simp] theorem amk{f:FuncId}{c:List V}{d:Nat} :
  V.cj d (.fn f c)=false ∧
  V.dg d (.fn f c)=false ∧
  V.ca d (.fn f c)=false:=by and_intros<;>rfl
@[simp] theorem aml{f:FuncId}{c:List V} :
  V.cz (.fn f c)=true ∧
  V.cells (.fn f c)=[.fn f c] ∧
  V.plain (.fn f c)=false ∧
  V.gW (.fn f c)=false ∧
  V.hZ (.fn f c)=false ∧
  V.lone (.fn f c)=false ∧
  gq (.fn f c)=.fn f c ∧
  strip (.fn f c)=.fn f c ∧
  V.jF (.fn f c)=.fn f c ∧
  V.kh (.fn f c)=.fn f c:=by and_intros<;>rfl
@[simp] theorem amm{i:Nat}{d:Nat} :
  V.cj d (.map i)=false ∧
  V.dg d (.map i)=false ∧
  V.ca d (.map i)=false:=by and_intros<;>rfl
@[simp] theorem amn{i:Nat} :
  V.cz (.map i)=true ∧
  V.cells (.map i)=[.map i] ∧
  V.plain (.map i)=false ∧
  V.gW (.map i)=false ∧
  V.hZ (.map i)=false ∧
  V.lone (.map i)=false ∧
  gq (.map i)=.map i ∧
  strip (.map i)=.map i ∧
  V.jF (.map i)=.map i ∧
  V.kh (.map i)=.map i:=by and_intros<;>rfl
@[simp] theorem amo{n:Nat}{es:List (List V)}{d:Nat} :
  V.cj d (.eY n es)=false ∧
  V.dg d (.eY n es)=false ∧
  V.ca d (.eY n es)=false:=by and_intros<;>rfl
@[simp] theorem amp{n:Nat}{es:List (List V)} :
  V.cz (.eY n es)=true ∧
  V.cells (.eY n es)=[.eY n es] ∧
  V.plain (.eY n es)=false ∧
  V.gW (.eY n es)=false ∧
  V.hZ (.eY n es)=false ∧
  V.lone (.eY n es)=false ∧
  gq (.eY n es)=.eY n es ∧
  strip (.eY n es)=.eY n es ∧
  V.jF (.eY n es)=.slice none n es ∧
  V.kh (.eY n es)=.slice none n es:=by and_intros<;>rfl
@[simp] theorem amq{t:Option Nat}{n:Nat}{es:List (List V)} :
  V.jF (.slice t n es)=.slice t n es ∧
  V.kh (.slice t n es)=.slice t n es:=by and_intros<;>rfl
@[simp] theorem amr{n:Nat}{d:Nat} :
  V.cj d (.dH n)=false ∧
  V.dg d (.dH n)=false ∧
  V.ca d (.dH n)=false ∧
  V.cj d (.e8 n)=false ∧
  V.dg d (.e8 n)=false ∧
  V.ca d (.e8 n)=false:=by and_intros<;>rfl
@[simp] theorem ams{n:Nat} :
  V.cz (.dH n)=true ∧
  V.cells (.dH n)=[.dH n] ∧
  V.plain (.dH n)=false ∧
  V.gW (.dH n)=false ∧
  V.hZ (.dH n)=false ∧
  V.lone (.dH n)=false ∧
  gq (.dH n)=.dH n ∧
  strip (.dH n)=.dH n ∧
  V.jF (.dH n)=.dH n ∧
  V.kh (.dH n)=.dH n ∧
  V.cz (.e8 n)=true ∧
  V.cells (.e8 n)=[.e8 n] ∧
  V.plain (.e8 n)=false ∧
  V.gW (.e8 n)=false ∧
  V.hZ (.e8 n)=false ∧
  V.lone (.e8 n)=false ∧
  gq (.e8 n)=.e8 n ∧
  strip (.e8 n)=.e8 n ∧
  V.jF (.e8 n)=.e8 n ∧
  V.kh (.e8 n)=.e8 n:=by and_intros<;>rfl
@[simp] theorem amt{t:Option Nat}{z:Nat}{es:List (List V)}:gq (.slice t z es:V)=.slice none z es:=by cases t<;>rfl
@[simp] theorem amu{t:Option Nat}{z:Nat}{es:List (List V)}:strip (.slice t z es:V)=.slice none z es:=by cases t<;>rfl
@[simp] theorem amv{t:Option Nat}{z:Nat}{es:List (List V)}:V.gW (.slice t z es:V)=true:=by cases t<;>rfl
@[simp] theorem amw{t:Option Nat}{z:Nat}{es:List (List V)}:V.hZ (.slice t z es:V)=true:=by cases t<;>rfl
@[simp] theorem amx{t:Option Nat}{z:Nat}{es:List (List V)}:V.lone (.slice t z es:V)=true:=by cases t<;>rfl
@[simp] theorem amy{t:Option Nat}{z:Nat}{es:List (List V)}:V.cz (.slice t z es:V)=true:=by cases t<;>rfl
@[simp] theorem amz{t:Option Nat}{z:Nat}{es:List (List V)}:V.cells (.slice t z es:V)=[.slice t z es]:=by cases t<;>rfl
@[simp] theorem amA{v:V}:yk .jQ v=v:=rfl
@[simp] theorem amB{i:Nat}{v:V}:yk (.loc i) v=v:=rfl
@[simp] theorem amC{v:V}:yk .ay v=v.kh:=rfl
def JP(L:bm)(d:Option Nat)(reg:List (Nat×Nat))(S:St)(os:List bN)(keep:cR)(k:cf):V×List aP→Prop:=fun r =>
 r.1.lone=true∧dJ L os keep k ({ S with a7:=(recv reg r.1).2++S.a7 }.put d (recv reg r.1).1)
@[simp] theorem aaQ{L:bm}{d:Option Nat}{reg:List (Nat×Nat)}{S:St}{os:List bN}{keep:cR}{k:cf}{r:V}{G:List aP} :
  JP L d reg S os keep k (r,G)=(r.lone=true∧dJ L os keep k ({ S with a7:=(recv reg r).2++S.a7 }.put d (recv reg r).1)):=rfl
def Qe(L:bm)(d:Option Nat)(g:FuncId)(reg:List (Nat×Nat))(S:St)(os:List bN)(keep:cR)(k:cf):List V→Prop:=fun vs=>cu (L g vs []) (JP L d reg S os keep k)
@[simp] theorem aaR{L:bm}{d:Option Nat}{g:FuncId}{reg:List (Nat×Nat)}{S:St}{os:List bN}{keep:cR}{k:cf}{vs:List V} :
  Qe L d g reg S os keep k vs=cu (L g vs []) (JP L d reg S os keep k):=rfl
@[simp high] theorem amD{L:bm}{d:Option Nat}{g:FuncId}{args:List (Sh×bj)}{reg:List (Nat×Nat)}{os:List bN}{keep:cR}{k:cf}{S:St} :
  dJ L (⟨d,.call true (.c (.fn g [])) args reg,none⟩::os) keep k S=cu (jR S args) (Qe L d g reg S os keep k):=by
 rw[gJ];simp only[bN.run,VO.run,St.ev];cases jR S args with
 |none=>simp[cu]
 |some vs =>
  simp only[qY,aaR];rcases L g vs []with _ | ⟨r,G⟩
  ·simp[cu]
  ·simp only[qY,aaQ]
   cases r.lone<;>simp[cu]
def JQ(L:bm)(d:Option Nat)(reg:List (Nat×Nat))(S:St)(os:List bN)(keep:cR)(k:cf):V×List aP→Prop:=fun r =>
 dJ L os keep k ({ S with ay:=r.2,a7:=(recv reg r.1).2++S.a7 }.put d (recv reg r.1).1)
@[simp] theorem amE{L:bm}{d:Option Nat}{reg:List (Nat×Nat)}{S:St}{os:List bN}{keep:cR}{k:cf}{r:V}{G:List aP} :
  JQ L d reg S os keep k (r,G)=dJ L os keep k ({ S with ay:=G,a7:=(recv reg r).2++S.a7 }.put d (recv reg r).1):=rfl
def JR(L:bm)(d:Option Nat)(g:FuncId)(cap:List V)(reg:List (Nat×Nat))(S:St)(os:List bN)(keep:cR)(k:cf):List V→Prop:=fun vs=>cu (L g (vs++cap) S.ay) (JQ L d reg S os keep k)
@[simp] theorem aaS{L:bm}{d:Option Nat}{g:FuncId}{cap:List V}{reg:List (Nat×Nat)}{S:St}{os:List bN}{keep:cR}{k:cf}{vs:List V} :
  JR L d g cap reg S os keep k vs=cu (L g (vs++cap) S.ay) (JQ L d reg S os keep k):=rfl
def JS(L:bm)(d:Option Nat)(args:List (Sh×bj))(reg:List (Nat×Nat))(S:St)(os:List bN)(keep:cR)(k:cf):V→Prop:=fun f=>match f with
 |.fn g cap=>cu (lH S args) (JR L d g cap reg S os keep k)
 |_=>False
@[simp] theorem aaT{L:bm}{d:Option Nat}{args:List (Sh×bj)}{reg:List (Nat×Nat)}{S:St}{os:List bN}{keep:cR}{k:cf}{g:FuncId}{cap:List V} :
  JS L d args reg S os keep k (.fn g cap)=cu (lH S args) (JR L d g cap reg S os keep k):=rfl
@[simp high] theorem amF{L:bm}{d:Option Nat}{f:bj}{args:List (Sh×bj)}{reg:List (Nat×Nat)}{os:List bN}{keep:cR}{k:cf}{S:St} :
  dJ L (⟨d,.call false f args reg,none⟩::os) keep k S=cu (S.ev f) (JS L d args reg S os keep k):=by
 rw[gJ];simp only[bN.run,VO.run];rcases S.ev f with _|v
 ·simp[cu]
 ·simp only[qY]
  cases v with
  |fn g cap =>
   simp only[aaT];cases lH S args with
   |none=>simp[cu]
   |some vs =>
    simp only[qY,aaS];rcases L g (vs++cap) S.ay with _ | ⟨r,G⟩
    ·simp[cu]
    ·simp
  |_=>simp[cu,JS]
def JT(L:bm)(d:Option Nat)(S:St)(os:List bN)(keep:cR)(k:cf):V×List aP→Prop:=fun r =>
 r.2=S.ay∧dJ L os keep k (S.put d (recv [] r.1).1)
@[simp] theorem aaU{L:bm}{d:Option Nat}{S:St}{os:List bN}{keep:cR}{k:cf}{r:V}{G:List aP} :
  JT L d S os keep k (r,G)=(G=S.ay∧dJ L os keep k (S.put d (recv [] r).1)):=rfl
def JU(L:bm)(d:Option Nat)(g:FuncId)(cap:List V)(S:St)(os:List bN)(keep:cR)(k:cf):List V→Prop:=fun vs=>cu (L g (vs++cap) S.ay) (JT L d S os keep k)
@[simp] theorem aaV{L:bm}{d:Option Nat}{g:FuncId}{cap:List V}{S:St}{os:List bN}{keep:cR}{k:cf}{vs:List V} :
  JU L d g cap S os keep k vs=cu (L g (vs++cap) S.ay) (JT L d S os keep k):=rfl
def JV(L:bm)(d:Option Nat)(args:List (Sh×bj))(S:St)(os:List bN)(keep:cR)(k:cf):V→Prop:=fun f=>match f with
 |.fn g cap=>cu (lH S args) (JU L d g cap S os keep k)
 |_=>False
@[simp] theorem aaW{L:bm}{d:Option Nat}{args:List (Sh×bj)}{S:St}{os:List bN}{keep:cR}{k:cf}{g:FuncId}{cap:List V} :
  JV L d args S os keep k (.fn g cap)=cu (lH S args) (JU L d g cap S os keep k):=rfl
@[simp high] theorem amG{L:bm}{d:Option Nat}{f:bj}{args:List (Sh×bj)}{os:List bN}{keep:cR}{k:cf}{S:St} :
  dJ L (⟨d,.pc f args,none⟩::os) keep k S=cu (S.ev f) (JV L d args S os keep k):=by
 rw[gJ];simp only[bN.run,VO.run];rcases S.ev f with _|v
 ·simp[cu]
 ·simp only[qY]
  cases v with
  |fn g cap =>
   simp only[aaW];cases lH S args with
   |none=>simp[cu]
   |some vs =>
    simp only[qY,aaV];rcases L g (vs++cap) S.ay with _ | ⟨r,G⟩
    ·simp[cu]
    ·simp only[qY,aaU,rd]
     by_cases h:G=S.ay
     ·simp[h]
     ·simp[h,cu]
  |_=>simp[cu,JV]
def FM(L:bm)(d:Option Nat)(id:Nat)(S:St)(os:List bN)(keep:cR)(k:cf):V×Option (List V)→Prop:=fun p=>match p.2 with
 |some cs=>dJ L os keep k ({ S with aV:=(id,cs)::S.aV }.put d p.1)
 |none=>dJ L os keep k (S.put d p.1)
@[simp] theorem amH{L:bm}{d:Option Nat}{id:Nat}{S:St}{os:List bN}{keep:cR}{k:cf}{v:V}{cs:List V} :
  FM L d id S os keep k (v,some cs)=dJ L os keep k ({ S with aV:=(id,cs)::S.aV }.put d v):=rfl
@[simp] theorem amI{L:bm}{d:Option Nat}{id:Nat}{S:St}{os:List bN}{keep:cR}{k:cf}{v:V} :
  FM L d id S os keep k (v,none)=dJ L os keep k (S.put d v):=rfl
def JW(L:bm)(d:Option Nat)(id pos:Nat)(S:St)(os:List bN)(keep:cR)(k:cf):V×List aP→Prop:=fun r=>cu (iD id pos r.1) (FM L d id S os keep k)
@[simp] theorem aaX{L:bm}{d:Option Nat}{id pos:Nat}{S:St}{os:List bN}{keep:cR}{k:cf}{r:V}{G:List aP} :
  JW L d id pos S os keep k (r,G)=cu (iD id pos r) (FM L d id S os keep k):=rfl
def Qf(L:bm)(d:Option Nat)(g:FuncId)(id pos:Nat)(S:St)(os:List bN)(keep:cR)(k:cf):List V→Prop:=fun vs=>cu (L g vs []) (JW L d id pos S os keep k)
@[simp] theorem aaY{L:bm}{d:Option Nat}{g:FuncId}{id pos:Nat}{S:St}{os:List bN}{keep:cR}{k:cf}{vs:List V} :
  Qf L d g id pos S os keep k vs=cu (L g vs []) (JW L d id pos S os keep k):=rfl
@[simp high] theorem amJ{L:bm}{d:Option Nat}{g:FuncId}{args:List (Sh×bj)}{id pos:Nat}{os:List bN}{keep:cR}{k:cf}{S:St} :
  dJ L (⟨d,.own (.c (.fn g [])) args id pos,none⟩::os) keep k S=cu (jR S args) (Qf L d g id pos S os keep k):=by
 rw[gJ];simp only[bN.run,VO.run,St.ev];cases jR S args with
 |none=>simp[cu]
 |some vs =>
  simp only[qY,aaY];rcases L g vs []with _ | ⟨r,G⟩
  ·simp[cu]
  ·simp only[qY,aaX]
   rcases iD id pos r with _ | ⟨v,_|cs⟩
   ·simp[cu]
   ·simp
   ·simp
def AU(L:bm)(d:Option Nat)(id:Nat)(S:St)(os:List bN)(keep:cR)(k:cf):V×Option (List V)→Prop:=fun p=>match p with
 |(.bO i n ln,some cs)=>cu (bif i==id&&Nat.blt 0 cs.length&&Nat.blt 0 ln&&cs.all V.sc then some ({ S with ay:=S.ay++[aP.cells cs] }.put d (.df S.ay.length n ln)) else none) (dJ L os keep k)
 |(.dH n,none)=>dJ L os keep k ({ S with ay:=S.ay++[aP.cells []] }.put d (.df S.ay.length n 0))
 |_=>False
@[simp] theorem amK{L:bm}{d:Option Nat}{id i n ln:Nat}{S:St}{os:List bN}{keep:cR}{k:cf}{cs:List V} :
  AU L d id S os keep k (.bO i n ln,some cs)=cu (bif i==id&&Nat.blt 0 cs.length&&Nat.blt 0 ln&&cs.all V.sc then some ({ S with ay:=S.ay++[aP.cells cs] }.put d (.df S.ay.length n ln)) else none) (dJ L os keep k):=rfl
@[simp] theorem amL{L:bm}{d:Option Nat}{id n:Nat}{S:St}{os:List bN}{keep:cR}{k:cf} :
  AU L d id S os keep k (.dH n,none)=dJ L os keep k ({ S with ay:=S.ay++[aP.cells []] }.put d (.df S.ay.length n 0)):=rfl
def JX(L:bm)(d:Option Nat)(id:Nat)(S:St)(os:List bN)(keep:cR)(k:cf):V×List aP→Prop:=fun r=>cu (iD id 0 r.1) (AU L d id S os keep k)
@[simp] theorem aaZ{L:bm}{d:Option Nat}{id:Nat}{S:St}{os:List bN}{keep:cR}{k:cf}{r:V}{G:List aP} :
  JX L d id S os keep k (r,G)=cu (iD id 0 r) (AU L d id S os keep k):=rfl
def Qg(L:bm)(d:Option Nat)(g:FuncId)(id:Nat)(S:St)(os:List bN)(keep:cR)(k:cf):List V→Prop:=fun vs=>cu (L g vs []) (JX L d id S os keep k)
@[simp] theorem aa0{L:bm}{d:Option Nat}{g:FuncId}{id:Nat}{S:St}{os:List bN}{keep:cR}{k:cf}{vs:List V} :
  Qg L d g id S os keep k vs=cu (L g vs []) (JX L d id S os keep k):=rfl
@[simp high] theorem amM{L:bm}{d:Option Nat}{g:FuncId}{args:List (Sh×bj)}{id:Nat}{os:List bN}{keep:cR}{k:cf}{S:St} :
  dJ L (⟨d,.pe (.c (.fn g [])) args id,none⟩::os) keep k S=cu (jR S args) (Qg L d g id S os keep k):=by
 rw[gJ];simp only[bN.run,VO.run,St.ev];cases jR S args with
 |none=>simp[cu]
 |some vs =>
  simp only[qY,aa0];rcases L g vs []with _ | ⟨r,G⟩
  ·simp[cu]
  ·simp only[qY,aaZ]
   rcases iD id 0 r with _ | ⟨v,o⟩
   ·simp[cu]
   ·rcases o with _|cs
    ·cases v<;>simp[cu,AU]
    ·cases v<;>simp[cu,AU]
     all_goals (split<;>simp_all)
def ib(w:Bool)(o:Option V)(A B:Prop):Prop:=match o with
 |some (.bool b)=>bif b==w then A else B
 |some .undef=>B
 |_=>False
@[simp] theorem amN{b:Bool}{A B:Prop}:ib true (some (.bool b)) A B=sO (some (.bool b)) A B:=by cases b<;>simp[ib]
@[simp] theorem amO{b:Bool}{A B:Prop}:ib false (some (.bool b)) A B=sO (some (.bool b)) B A:=by cases b<;>simp[ib]
@[simp] theorem amP{w:Bool}{A B:Prop}:ib w (some .undef) A B=B:=rfl
@[simp] theorem amQ{w b:Bool}{x y:V}{A B:Prop}:ib w (some (j0 b x y)) A B=sO (some (.bool b)) (ib w (some x) A B) (ib w (some y) A B):=by cases b<;>simp
@[simp high] theorem amR{L:bm}{d:Option Nat}{al:Bool}{f:bj}{args:List (Sh×bj)}{reg:List (Nat×Nat)}{g:Nat}{w:Bool}{os:List bN}{keep:cR}{k:cf}{S:St} :
  dJ L (⟨d,.call al f args reg,some (g,w)⟩::os) keep k S=ib w (look g S.env) (dJ L (⟨d,.call al f args reg,none⟩::os) keep k S) (dJ L os keep k (S.put d .undef)):=by
 rw[gJ,gJ];simp only[bN.run];rcases look g S.env with _|v
 ·simp[cu,ib]
 ·cases v with
  |bool b=>simp only[ib];cases b==w<;>simp
  |undef=>simp[ib]
  |_=>simp[cu,ib]
@[simp high] theorem amS{L:bm}{d:Option Nat}{f:bj}{args:List (Sh×bj)}{g:Nat}{w:Bool}{os:List bN}{keep:cR}{k:cf}{S:St} :
  dJ L (⟨d,.pc f args,some (g,w)⟩::os) keep k S=ib w (look g S.env) (dJ L (⟨d,.pc f args,none⟩::os) keep k S) (dJ L os keep k (S.put d .undef)):=by
 rw[gJ,gJ];simp only[bN.run];rcases look g S.env with _|v
 ·simp[cu,ib]
 ·cases v with
  |bool b=>simp only[ib];cases b==w<;>simp
  |undef=>simp[ib]
  |_=>simp[cu,ib]
theorem aa1{reg:List (Nat×Nat)}{cs:List V}:recv reg (.agg cs)=(.agg (cH reg 0 cs).1,(cH reg 0 cs).2):=rfl
theorem aa2{reg:List (Nat×Nat)}{cs:List V}:recv reg (.tuple cs)=(.tuple (cH reg 0 cs).1,(cH reg 0 cs).2):=rfl
attribute [simp] aa1 aa2
@[simp] theorem amT{reg:List (Nat×Nat)}{i:Nat} :
  cH reg i []=([],[]) ∧
  recv reg (.map i)=(strip (.map i),[]):=by and_intros<;>rfl
@[simp] theorem aa3{i:Nat}:∀{vs:List V},cH [] i vs=(vs.map strip,[])
 |[]=>rfl
 |v::vs=>by
  simp only[cH,aa3 (i:=i+1) (vs:=vs)];cases v with
  |slice t n es=>cases t<;>rfl
  |_=>rfl
def JY(o:Option Nat)(n:Nat)(es:List (List V))(r:List V×List (Nat×Nat)):List V×List (Nat×Nat):=match o with
 |some f=>(.slice (some f) n es::r.1,(f,es.length)::r.2)
 |none=>(.slice none n es::r.1,r.2)
@[simp] theorem amU{f n:Nat}{es:List (List V)}{r:List V×List (Nat×Nat)}:JY (some f) n es r=(.slice (some f) n es::r.1,(f,es.length)::r.2):=rfl
@[simp] theorem amV{n:Nat}{es:List (List V)}{r:List V×List (Nat×Nat)}:JY none n es r=(.slice none n es::r.1,r.2):=rfl
@[simp] theorem amW{reg:List (Nat×Nat)}{i n t:Nat}{es:List (List V)}{vs:List V}:cH reg i (.slice (some t) n es::vs)=JY (look i reg) n es (cH reg (i+1) vs):=by
 simp only[cH];cases look i reg<;>rfl
@[simp] theorem amX{reg:List (Nat×Nat)}{j:Nat}{us:List V}{k:IntKind}{n:Int}:cH reg j ((.int k n)::us)=(strip (.int k n)::(cH reg (j+1) us).1,(cH reg (j+1) us).2):=rfl
@[simp] theorem amY{reg:List (Nat×Nat)}{k:IntKind}{n:Int}:recv reg (.int k n)=(strip (.int k n),[]):=rfl
@[simp] theorem amZ{reg:List (Nat×Nat)}{j:Nat}{us:List V}{b:Bool}:cH reg j ((.bool b)::us)=(strip (.bool b)::(cH reg (j+1) us).1,(cH reg (j+1) us).2):=rfl
@[simp] theorem am0{reg:List (Nat×Nat)}{b:Bool}:recv reg (.bool b)=(strip (.bool b),[]):=rfl
@[simp] theorem am1{reg:List (Nat×Nat)}{j:Nat}{us:List V}{s:List UInt8}:cH reg j ((.str s)::us)=(strip (.str s)::(cH reg (j+1) us).1,(cH reg (j+1) us).2):=rfl
@[simp] theorem am2{reg:List (Nat×Nat)}{s:List UInt8}:recv reg (.str s)=(strip (.str s),[]):=rfl
@[simp] theorem am3{reg:List (Nat×Nat)}{j:Nat}{us:List V} :
  cH reg j (.bW::us)=(strip .bW::(cH reg (j+1) us).1,(cH reg (j+1) us).2) ∧
  cH reg j (.ft::us)=(strip .ft::(cH reg (j+1) us).1,(cH reg (j+1) us).2) ∧
  cH reg j (.fu::us)=(strip .fu::(cH reg (j+1) us).1,(cH reg (j+1) us).2) ∧
  cH reg j (.fw::us)=(strip .fw::(cH reg (j+1) us).1,(cH reg (j+1) us).2) ∧
  cH reg j (.undef::us)=(strip .undef::(cH reg (j+1) us).1,(cH reg (j+1) us).2):=by and_intros<;>rfl
@[simp] theorem am4{reg:List (Nat×Nat)} :
  recv reg .bW=(strip .bW,[]) ∧
  recv reg .ft=(strip .ft,[]) ∧
  recv reg .fu=(strip .fu,[]) ∧
  recv reg .fw=(strip .fw,[]) ∧
  recv reg .undef=(strip .undef,[]):=by and_intros<;>rfl
@[simp] theorem am5{reg:List (Nat×Nat)}{j:Nat}{us:List V}{z:Nat}{es:List (List V)}:cH reg j ((.slice none z es)::us)=(strip (.slice none z es)::(cH reg (j+1) us).1,(cH reg (j+1) us).2):=rfl
@[simp] theorem am6{reg:List (Nat×Nat)}{z:Nat}{es:List (List V)}:recv reg (.slice none z es)=(strip (.slice none z es),[]):=rfl
@[simp] theorem am7{reg:List (Nat×Nat)}{j:Nat}{us:List V}{cs:List V}:cH reg j ((.agg cs)::us)=(strip (.agg cs)::(cH reg (j+1) us).1,(cH reg (j+1) us).2):=rfl
@[simp] theorem am8{reg:List (Nat×Nat)}{j:Nat}{us:List V}{vs:List V}:cH reg j ((.tuple vs)::us)=(strip (.tuple vs)::(cH reg (j+1) us).1,(cH reg (j+1) us).2):=rfl
@[simp] theorem am9{reg:List (Nat×Nat)}{j:Nat}{us:List V}{r:List V}{o:Nat}:cH reg j ((.eF r o)::us)=(strip (.eF r o)::(cH reg (j+1) us).1,(cH reg (j+1) us).2):=rfl
@[simp] theorem ana{reg:List (Nat×Nat)}{r:List V}{o:Nat}:recv reg (.eF r o)=(strip (.eF r o),[]):=rfl
@[simp] theorem anb{reg:List (Nat×Nat)}{j:Nat}{us:List V}{i o:Nat} :
  cH reg j ((.bA i o)::us)=(strip (.bA i o)::(cH reg (j+1) us).1,(cH reg (j+1) us).2) ∧
  cH reg j ((.bB i o)::us)=(strip (.bB i o)::(cH reg (j+1) us).1,(cH reg (j+1) us).2):=by and_intros<;>rfl
@[simp] theorem anc{reg:List (Nat×Nat)}{i o:Nat} :
  recv reg (.bA i o)=(strip (.bA i o),[]) ∧
  recv reg (.bB i o)=(strip (.bB i o),[]):=by and_intros<;>rfl
@[simp] theorem ane{reg:List (Nat×Nat)}{j:Nat}{us:List V}{i o l:Nat}:cH reg j ((.bO i o l)::us)=(strip (.bO i o l)::(cH reg (j+1) us).1,(cH reg (j+1) us).2):=rfl
@[simp] theorem anf{reg:List (Nat×Nat)}{i o l:Nat}:recv reg (.bO i o l)=(strip (.bO i o l),[]):=rfl
@[simp] theorem ang{reg:List (Nat×Nat)}{j:Nat}{us:List V}{f:FuncId}{c:List V}:cH reg j ((.fn f c)::us)=(strip (.fn f c)::(cH reg (j+1) us).1,(cH reg (j+1) us).2):=rfl
@[simp] theorem anh{reg:List (Nat×Nat)}{f:FuncId}{c:List V}:recv reg (.fn f c)=(strip (.fn f c),[]):=rfl
@[simp] theorem ani{reg:List (Nat×Nat)}{j:Nat}{us:List V}{i:Nat}:cH reg j ((.map i)::us)=(strip (.map i)::(cH reg (j+1) us).1,(cH reg (j+1) us).2):=rfl
@[simp] theorem anj{reg:List (Nat×Nat)}{n t:Nat}{es:List (List V)}:recv reg (.slice (some t) n es)=match cH reg 0 [.slice (some t) n es] with
  |([u],ts)=>(u,ts)
  |_=>(.undef,[]):=rfl
theorem FN{α:Type}(g:α→Int):∀l:List α,kV [none] (l.map fun j=>[V.int .i64 (g j)])=some (l.map fun j=>[V.int .i64 (g j)])
 |[]=>rfl
 |a::l=>by simp[kV,lD,el,FN g l]
theorem CR{sz:Nat}:∀(cs:List V) (off n:Nat),sz=1→off+n≤cs.length→chunks sz cs off n=((cs.drop off).take n).map fun v=>[v]
 |cs,off,0,_,_=>by simp[chunks]
 |cs,off,n+1,h,hn=>by
  subst h;rw[chunks,CR cs (off+1) n rfl (by omega),List.drop_eq_getElem_cons (show off<cs.length by omega)]
  simp only[List.take_succ_cons,List.take_zero,List.map_cons]
@[simp] theorem ank{n:Nat}{f:Nat→Int}:kV [none] (chunks 1 (eA n f) 0 n)=some ((List.range n).map fun j=>[V.int .i64 (f j)]):=by
 rw[CR _ _ _ rfl (by simp)]
 rw[List.drop_zero,aaO,eA,List.map_map];exact FN f _
theorem Qi{n:Nat}:List.replicate n (V.int .i64 0)=eA n fun _=>0:=by
 rw[←Qc,rep]
@[simp] theorem anl{n:Nat}:(List.replicate n [V.int .i64 0]).flatten=eA n fun _=>0:=by
 rw[←Qc,rep];simp
@[simp] theorem anm{x y:Nat} :
  V.iS x y .undef=.undef ∧
  V.iS x y .bW=.bW ∧
  V.iS x y .ft=.ft ∧
  V.iS x y .fu=.fu ∧
  V.iS x y .fw=.fw:=by and_intros<;>rfl
@[simp] theorem ann{x:Nat} :
  V.forget x .undef=.undef ∧
  V.forget x .bW=.bW ∧
  V.forget x .ft=.ft ∧
  V.forget x .fu=.fu ∧
  V.forget x .fw=.fw:=by and_intros<;>rfl
@[simp] theorem ano{k:IntKind}{n:Int}{x y:Nat}:V.iS x y (.int k n)=.int k n:=rfl
@[simp] theorem anp{k:IntKind}{n:Int}{x:Nat}:V.forget x (.int k n)=.int k n:=rfl
@[simp] theorem anq{b:Bool}{x y:Nat}:V.iS x y (.bool b)=.bool b:=rfl
@[simp] theorem anr{b:Bool}{x:Nat}:V.forget x (.bool b)=.bool b:=rfl
@[simp] theorem ant{s:List UInt8}{x y:Nat}:V.iS x y (.str s)=.str s:=rfl
@[simp] theorem anu{s:List UInt8}{x:Nat}:V.forget x (.str s)=.str s:=rfl
@[simp] theorem anv{z:Nat}{es:List (List V)}{x y:Nat}:V.iS x y (.slice none z es)=.slice none z es:=rfl
@[simp] theorem anw{z:Nat}{es:List (List V)}{x:Nat}:V.forget x (.slice none z es)=.slice none z es:=rfl
@[simp] theorem anx{t z:Nat}{es:List (List V)}{x y:Nat}:V.iS x y (.slice (some t) z es:V)=.slice (some t) z es:=rfl
@[simp] theorem anz{t z:Nat}{es:List (List V)}{x:Nat}:V.forget x (.slice (some t) z es:V)=bif t==x then .slice none z es else .slice (some t) z es:=rfl
@[simp] theorem anA{cs:List V}{x y:Nat}:V.iS x y (.agg cs)=.agg cs:=rfl
@[simp] theorem anB{cs:List V}{x:Nat}:V.forget x (.agg cs)=.agg cs:=rfl
@[simp] theorem anC{vs:List V}{x y:Nat}:V.iS x y (.tuple vs)=.tuple vs:=rfl
@[simp] theorem anD{vs:List V}{x:Nat}:V.forget x (.tuple vs)=.tuple vs:=rfl
@[simp] theorem anE{r:List V}{o:Nat}{x y:Nat}:V.iS x y (.eF r o)=.eF r o:=rfl
@[simp] theorem anF{r:List V}{o:Nat}{x:Nat}:V.forget x (.eF r o)=.eF r o:=rfl
@[simp] theorem anG{i o:Nat}{x y:Nat} :
  V.iS x y (.bA i o)=.bA i o ∧
  V.iS x y (.bB i o)=.bB i o:=by and_intros<;>rfl
@[simp] theorem anH{i o:Nat}{x:Nat} :
  V.forget x (.bA i o)=.bA i o ∧
  V.forget x (.bB i o)=.bB i o:=by and_intros<;>rfl
@[simp] theorem anI{i o l:Nat}{x y:Nat}:V.iS x y (.bO i o l)=bif i==x then .bO y o l else .bO i o l:=rfl
@[simp] theorem anJ{i o l:Nat}{x:Nat}:V.forget x (.bO i o l)=.bO i o l:=rfl
@[simp] theorem anK{f:FuncId}{c:List V}{x y:Nat}:V.iS x y (.fn f c)=.fn f c:=rfl
@[simp] theorem anL{f:FuncId}{c:List V}{x:Nat}:V.forget x (.fn f c)=.fn f c:=rfl
@[simp] theorem anM{i:Nat}{x y:Nat}:V.iS x y (.map i)=.map i:=rfl
@[simp] theorem anN{i:Nat}{x:Nat}:V.forget x (.map i)=.map i:=rfl
@[simp] theorem sn0{i s n:Nat}{d:Nat} :
  V.cj d (.df i s n)=false ∧
  V.dg d (.df i s n)=false ∧
  V.ca d (.df i s n)=false:=by and_intros<;>rfl
@[simp] theorem sn1{i s n:Nat} :
  V.cz (.df i s n)=true ∧
  V.plain (.df i s n)=false ∧
  V.gW (.df i s n)=false ∧
  V.hZ (.df i s n)=false ∧
  V.lone (.df i s n)=false ∧
  V.cells (.df i s n)=[.df i s n] ∧
  gq (.df i s n)=.df i s n ∧
  strip (.df i s n)=.df i s n ∧
  V.jF (.df i s n)=.df i s n ∧
  V.kh (.df i s n)=.df i s n:=by and_intros<;>rfl
@[simp] theorem sn2{i s n:Nat}{x y:Nat}:V.iS x y (.df i s n)=.df i s n:=rfl
@[simp] theorem sn3{i s n:Nat}{x:Nat}:V.forget x (.df i s n)=.df i s n:=rfl
@[simp] theorem sn4{reg:List (Nat×Nat)}{j:Nat}{us:List V}{i s n:Nat}:cH reg j ((.df i s n)::us)=(strip (.df i s n)::(cH reg (j+1) us).1,(cH reg (j+1) us).2):=rfl
@[simp] theorem sn5{reg:List (Nat×Nat)}{i s n:Nat}:recv reg (.df i s n)=(strip (.df i s n),[]):=rfl
@[simp] theorem sn6{i s o n:Nat}{d:Nat} :
  V.cj d (.fH i s o n)=(i==d) ∧
  V.dg d (.fH i s o n)=(i==d) ∧
  V.ca d (.fH i s o n)=(i==d):=by and_intros<;>rfl
@[simp] theorem sn7{i s o n:Nat} :
  V.cz (.fH i s o n)=true ∧
  V.plain (.fH i s o n)=false ∧
  V.gW (.fH i s o n)=false ∧
  V.hZ (.fH i s o n)=false ∧
  V.lone (.fH i s o n)=false ∧
  V.cells (.fH i s o n)=[.fH i s o n] ∧
  gq (.fH i s o n)=.fH i s o n ∧
  strip (.fH i s o n)=.fH i s o n ∧
  V.jF (.fH i s o n)=.fH i s o n ∧
  V.kh (.fH i s o n)=.fH i s o n:=by and_intros<;>rfl
@[simp] theorem sn8{i s o n:Nat}{x y:Nat}:V.iS x y (.fH i s o n)=.fH i s o n:=rfl
@[simp] theorem sn9{i s o n:Nat}{x:Nat}:V.forget x (.fH i s o n)=.fH i s o n:=rfl
@[simp] theorem anY{reg:List (Nat×Nat)}{j:Nat}{us:List V}{i s o n:Nat}:cH reg j ((.fH i s o n)::us)=(strip (.fH i s o n)::(cH reg (j+1) us).1,(cH reg (j+1) us).2):=rfl
@[simp] theorem anZ{reg:List (Nat×Nat)}{i s o n:Nat}:recv reg (.fH i s o n)=(strip (.fH i s o n),[]):=rfl
def dv(l:List Int):List V:=l.map fun n=>.int .i64 n
@[simp] theorem aa4{l:List Int}:(dv l).length=l.length:=by simp[dv]
@[simp] theorem an0{l:List Int}{i:Nat}{v:Int}:(dv l).set i (.int .i64 v)=dv (l.set i v):=by simp[dv]
theorem jI{l:List Int}{i:Nat}(h:i<l.length):(dv l)[i]?=some (.int .i64 (nth l i)):=by simp[dv,dD h]
@[simp] theorem aa5{l:List Int}{d:Nat}:(dv l).all (fun v => !v.cj d)=true:=by simp[dv,V.cj]
@[simp] theorem Qj{l:List Int}:(l.map fun n=>[V.int .i64 n]).flatten=dv l:=by
 induction l with
 |nil=>rfl
 |cons a l ih=>simp only[List.map_cons,List.flatten_cons,ih];rfl
@[simp] theorem JZ{l:List Int}{n:Nat}(h:n=l.length):kV [none] (chunks 1 (dv l) 0 n)=some (l.map fun n=>[V.int .i64 n]):=by
 subst h;rw[CR _ _ _ rfl (by simp)]
 rw[List.drop_zero,List.take_of_length_le (by simp),dv,List.map_map]
 exact FN (fun n=>n) l
@[simp] theorem an1{l m:List Int}:dv l++dv m=dv (l++m):=by simp[dv]
@[simp] theorem an2{l:List Int}{a:Int}:dv l++[V.int .i64 a]=dv (l++[a]):=by simp[dv]
def kp{α:Type}(o:Option α)(s:Nat)(r:List (Nat×α)):List (Nat×α):=match o with
 |some v=>(s,v)::r
 |none=>r
@[simp] theorem an3{α:Type}{v:α}{s:Nat}{r:List (Nat×α)}:kp (some v) s r=(s,v)::r:=rfl
@[simp] theorem an4{α:Type}{s:Nat}{r:List (Nat×α)}:kp none s r=r:=rfl
@[simp low] theorem an5{α:Type}{env:List (Nat×α)}{s:Nat}{l:List Nat}:se env (s::l)=kp (look s env) s (se env l):=by
 simp only[se];cases look s env<;>rfl
@[simp low] theorem an6{α:Type}{env:List (Nat×α)}:se env []=[]:=rfl
attribute [simp] yj kU St.take St.uD mB bN.run VO.run St.ev nX St.put V.bin BN St.keep tA tz wW wV lT nU qM el lD
 iQ.fits St.mR loadAt St.fits iC jR qN lH wU V.un EH St.kg pf sb nC yl St.nB hY.run St.rows St.sa St.p9 St.share St.zY tx St.vu
@[simp] theorem aa6{a b:Nat}:Nat.ble a b=decide (a≤b):=by
 by_cases h:a≤b
 ·simp[h,Nat.ble_eq]
 ·simp only[h,decide_false]
  exact Bool.eq_false_iff.2 (fun e=>h (Nat.le_of_ble_eq_true e))
@[simp] theorem an7{a b:Nat}:Nat.blt a b=decide (a<b):=by
 rw[Nat.blt,aa6];rfl
attribute [simp] List.getElem?_cons_zero List.getElem?_cons_succ
theorem AV{G r:List aP}{a:aP}:(G++a::r)[G.length]?=some a:=by simp
theorem Qk{G r:List aP}{a b:aP}:(G++a::b::r)[G.length+1]?=some b:=by
 rw[List.getElem?_append_right (by omega)];simp
def wa(S:St)(ids:List Nat)(rs sh:Sh):Option V→Option V
 |some (.bO id s n)=>S.zX ids rs id s n
 |some v=>qN sh v
 |none=>none
@[simp] theorem an8{S:St}{ids:List Nat}:nV S ids []=some []:=rfl
@[simp] theorem an9{S:St}{ids:List Nat}{rs sh:Sh}{x:bj}{xs:List (Sh×Sh×bj)}:nV S ids ((rs,sh,x)::xs)=match wa S ids rs sh (S.ev x),nV S ids xs with
  |some u,some us=>some (u::us)
  |_,_=>none:=by
 simp only[nV];rcases S.ev x with _|v
 ·rfl
 ·cases v<;>rfl
@[simp] theorem aoa{S:St}{ids:List Nat}{rs sh:Sh}{id s n:Nat}:wa S ids rs sh (some (.bO id s n))=bif ids.contains id then (match S.sa rs (.bO id s n) with|some es=>some (V.slice none rs.length es)|none=>none) else none:=rfl
@[simp] theorem aob{S:St}{ids:List Nat}{rs sh:Sh}{k:IntKind}{n:Int}:wa S ids rs sh (some (.int k n))=qN sh (.int k n):=rfl
@[simp] theorem aoc{S:St}{ids:List Nat}{rs sh:Sh}{b:Bool}:wa S ids rs sh (some (.bool b))=qN sh (.bool b):=rfl
@[simp] theorem aod{S:St}{ids:List Nat}{rs sh:Sh}{s:List UInt8}:wa S ids rs sh (some (.str s))=qN sh (.str s):=rfl
@[simp] theorem aoe{S:St}{ids:List Nat}{rs sh:Sh}:wa S ids rs sh (some .bW)=qN sh .bW:=rfl
@[simp] theorem aof{S:St}{ids:List Nat}{rs sh:Sh}{t:Option Nat}{n:Nat}{es:List (List V)}:wa S ids rs sh (some (.slice t n es))=qN sh (.slice t n es):=rfl
@[simp] theorem aog{S:St}{ids:List Nat}{rs sh:Sh}{n:Nat}:wa S ids rs sh (some (.dH n))=qN sh (.dH n):=rfl
@[simp] theorem aoh{S:St}{ids:List Nat}{rs sh:Sh}{cs:List V}:wa S ids rs sh (some (.agg cs))=qN sh (.agg cs):=rfl
def J0(L:bm)(d:Option Nat)(S:St)(os:List bN)(keep:cR)(k:cf):V×List aP→Prop:=fun r=>r.1.nW=true∧dJ L os keep k (S.put d r.1)
@[simp] theorem aa7{L:bm}{d:Option Nat}{S:St}{os:List bN}{keep:cR}{k:cf}{r:V}{G:List aP}:J0 L d S os keep k (r,G)=(r.nW=true∧dJ L os keep k (S.put d r)):=rfl
def Ql(L:bm)(d:Option Nat)(g:FuncId)(S:St)(os:List bN)(keep:cR)(k:cf):List V→Prop:=fun vs=>cu (L g vs []) (J0 L d S os keep k)
@[simp] theorem aa8{L:bm}{d:Option Nat}{g:FuncId}{S:St}{os:List bN}{keep:cR}{k:cf}{vs:List V}:Ql L d g S os keep k vs=cu (L g vs []) (J0 L d S os keep k):=rfl
@[simp high] theorem aoi{L:bm}{d:Option Nat}{g:FuncId}{args:List (Sh×Sh×bj)}{ids:List Nat}{os:List bN}{keep:cR}{k:cf}{S:St} :
  dJ L (⟨d,.pd (.c (.fn g [])) args ids,none⟩::os) keep k S=cu (nV S ids args) (Ql L d g S os keep k):=by
 rw[gJ];simp only[bN.run,VO.run,St.ev];cases nV S ids args with
 |none=>simp[cu]
 |some vs =>
  simp only[qY,aa8];rcases L g vs []with _ | ⟨r,G⟩
  ·simp[cu]
  ·simp only[qY,aa7]
   cases r.nW<;>simp[cu]
@[simp high] theorem aoj{L:bm}{d:Option Nat}{f:bj}{args:List (Sh×Sh×bj)}{ids:List Nat}{g:Nat}{w:Bool}{os:List bN}{keep:cR}{k:cf}{S:St} :
  dJ L (⟨d,.pd f args ids,some (g,w)⟩::os) keep k S=ib w (look g S.env) (dJ L (⟨d,.pd f args ids,none⟩::os) keep k S) (dJ L os keep k (S.put d .undef)):=by
 rw[gJ,gJ];simp only[bN.run];rcases look g S.env with _|v
 ·simp[cu,ib]
 ·cases v with
  |bool b=>simp only[ib];cases b==w<;>simp
  |undef=>simp[ib]
  |_=>simp[cu,ib]
@[simp] theorem aok{k:IntKind}{n:Int}:V.nW (.int k n)=true:=rfl
@[simp] theorem aol{b:Bool}:V.nW (.bool b)=true:=rfl
@[simp] theorem aom{s:List UInt8}:V.nW (.str s)=true:=rfl
attribute [simp] V.nW V.sc
end Go.Vm
