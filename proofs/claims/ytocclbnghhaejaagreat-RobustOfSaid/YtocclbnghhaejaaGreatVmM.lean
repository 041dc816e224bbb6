/- The value machine, 22: weakest preconditions of the evaluator. -/
import Derived.Test.YtocclbnghhaejaaGreatVmI
namespace Go.Vm
set_option linter.all false
def cJ{α:Type}(o:Option α)(P:α→Prop):Prop:=∃a,o=some a∧P a
@[congr] theorem aqy{α:Type}{o o':Option α}{P:α→Prop}(h:o=o'):cJ o P=cJ o' P:=by rw[h]
@[simp] theorem sU{α:Type}{a:α}{P:α→Prop}:cJ (some a) P=P a:=by simp[cJ]
theorem aqz{α:Type}{o:Option α}{a:α}{P:α→Prop}(h:o=some a)(hp:P a):cJ o P:=⟨a,h,hp⟩
def tY(o:Option V)(A B:Prop):Prop:=∃t,o=some (.bool t)∧(bif t then A else B)
@[congr] theorem aqA{o o':Option V}{A B:Prop}(h:o=o'):tY o A B=tY o' A B:=by rw[h]
@[simp] theorem aqB{A B:Prop}:tY (some (.bool true)) A B=A:=by simp[tY]
@[simp] theorem aqC{A B:Prop}:tY (some (.bool false)) A B=B:=by simp[tY]
theorem bE{p:Prop}{dp:Decidable p}{A B:Prop}(ha:p→A)(hb:¬p→B):tY (some (.bool (decide p))) A B:=by
 by_cases h:p
 ·simpa [h] using ha h
 ·simpa [h] using hb h
theorem fe{t:Bool}{A B:Prop}(ha:t=true→A)(hb:t=false→B):tY (some (.bool t)) A B:=by
 cases t
 ·simpa using hb rfl
 ·simpa using ha rfl
abbrev cz:=oz→St→Prop
def go(L:bw)(c:VC)(S:St)(k:cz):Prop:=∃n e T,VC.run L n c S=some (e,T)∧k e T
@[congr] theorem go_congr{L:bw}{c:VC}{S S':St}{k:cz}(h:S=S'):go L c S k=go L c S' k:=by rw[h]
theorem wo{L:bw}{n m:Nat}(h:n≤m){c:VC}{S:St}{x:oz×St}(hr:VC.run L n c S=some x):VC.run L m c S=some x :=
 zG (fun _ _ _ _ h=>h) h hr
theorem go.mono{L:bw}{c:VC}{S:St}{k k':cz}(h:go L c S k)(hk:∀e T,k e T→k' e T):go L c S k':=by
 obtain⟨n,e,T,h1,h2⟩:=h;exact⟨n,e,T,h1,hk _ _ h2⟩
def sq(L:bw)(b:VC)(k:cz):cz:=fun e T=>match e with
 |.normal=>go L b T k
 |.exit i=>k (.exit i) T
 |.ret=>k .ret T
@[simp] theorem aqD{L:bw}{b:VC}{k:cz}{T:St}:sq L b k .normal T=go L b T k:=rfl
@[simp] theorem aqE{L:bw}{b:VC}{k:cz}{i:Nat}{T:St}:sq L b k (.exit i) T=k (.exit i) T:=rfl
@[simp] theorem aqF{L:bw}{b:VC}{k:cz}{T:St}:sq L b k .ret T=k .ret T:=rfl
def bk(id:Nat)(k:cz):cz:=fun e T=>match e with
 |.normal=>k .normal T
 |.exit i=>bif i==id then k .normal T else k (.exit i) T
 |.ret=>k .ret T
@[simp] theorem aqG{id:Nat}{k:cz}{T:St}:bk id k .normal T=k .normal T:=rfl
def Fb(b:Bool)(k:cz)(i:Nat)(T:St):Prop:=bif b then k .normal T else k (.exit i) T
@[congr] theorem aqH{b b':Bool}{k:cz}{i:Nat}{T:St}(h:b=b'):Fb b k i T=Fb b' k i T:=by rw[h]
@[simp] theorem aqI{k:cz}{i:Nat}{T:St}:Fb true k i T=k .normal T:=rfl
@[simp] theorem aqJ{k:cz}{i:Nat}{T:St}:Fb false k i T=k (.exit i) T:=rfl
@[simp] theorem aqK{id:Nat}{k:cz}{i:Nat}{T:St}:bk id k (.exit i) T=Fb (i==id) k i T:=rfl
@[simp] theorem aqL{id:Nat}{k:cz}{T:St}:bk id k .ret T=k .ret T:=rfl
def dW(L:bw)(os:List bH)(keep:cY)(k:cz):St→Prop:=fun S=>∃T,gL L os S=some T∧k .normal (T.keep keep)
@[congr] theorem aqM{L:bw}{os:List bH}{keep:cY}{k:cz}{S S':St}(h:S=S'):dW L os keep k S=dW L os keep k S':=by rw[h]
@[simp] theorem aqN{L:bw}{keep:cY}{k:cz}{S:St}:dW L [] keep k S=k .normal (S.keep keep):=by simp[dW,gL]
@[simp] theorem aqO{L:bw}{d:Option Nat}{op:VO}{os:List bH}{keep:cY}{k:cz}{S:St}:dW L (⟨d,op,none⟩::os) keep k S=cJ (op.run L d S) (dW L os keep k):=by
 unfold dW cJ;simp only[gL,bH.run];cases op.run L d S<;>simp
theorem iD{L:bw}{o:bH}{os:List bH}{keep:cY}{k:cz}{S:St}:dW L (o::os) keep k S=cJ (o.run L S) (dW L os keep k):=by
 unfold dW cJ;simp only[gL];cases o.run L S<;>simp
def kO{α:Type}(c:Bool)(a b:α):α:=bif c then a else b
@[congr] theorem aqP{α:Type}{c c':Bool}{a a' b b':α}(hc:c=c')(ha:c'=true→a=a')(hb:c'=false→b=b'):kO c a b=kO c' a' b':=by
 subst hc;cases c
 ·exact hb rfl
 ·exact ha rfl
@[congr] theorem aqQ{α:Type}{p q:Prop}{dp:Decidable p}[dq:Decidable q]{a a' b b':α}(hc:p=q)(ha:q→a=a')(hb:¬q→b=b'):@kO α (@decide p dp) a b=kO (decide q) a' b':=by
 subst hc;by_cases h:p
 ·simp[kO,h,ha h]
 ·simp[kO,h,hb h]
theorem kP{a b:Int}:(a==b)=decide (a=b):=by by_cases h:a=b<;>simp[h]
theorem lP{a b:Int}:(a != b) = !decide (a=b):=by by_cases h:a=b<;>simp[h]
theorem lQ{α:Type}{p:Prop}{dp:Decidable p}{a b:α}(h:p):(bif decide p then a else b)=a:=by simp[h]
@[simp] theorem aqR{k:Int}:decide (k≤(lim:Int))=decide (k≤4294967296):=rfl
@[simp] theorem aqS{k:Nat}:decide (k≤lim)=decide (k≤4294967296):=rfl
theorem lR{α:Type}{p q:Prop}{dp:Decidable p}{dq:Decidable q}{a b:α}(h:p∧q):(bif decide p&&decide q then a else b)=a:=by simp[h.1,h.2]
@[simp] theorem aqT{α:Type}{a b:α}:kO true a b=a:=rfl
@[simp] theorem aqU{α:Type}{a b:α}:kO false a b=b:=rfl
@[simp] theorem aqV{α:Type}{c:Bool}{a b:α}:kO (!c) a b=kO c b a:=by cases c<;>rfl
@[simp] theorem aqW{α:Type}{c:Bool}{a b:α}:kO c (some a) (some b)=some (kO c a b):=by cases c<;>rfl
@[simp] theorem aqX{c a b:Bool}:kO c (V.bool a) (V.bool b)=V.bool (bif c then a else b):=by cases c<;>rfl
def jC(o:Option V)(w:Bool)(x:Option V):Option V :=
 match o with
 |some (.bool b)=>bif b==w then x else some .undef
 |some .undef=>some .undef
 |_=>none
@[simp] theorem aqY{b:Bool}{x:Option V}:jC (some (.bool b)) true x=kO b x (some .undef):=by cases b<;>rfl
@[simp] theorem aqZ{b:Bool}{x:Option V}:jC (some (.bool b)) false x=kO b (some .undef) x:=by cases b<;>rfl
@[simp] theorem aq0{w:Bool}{x:Option V}:jC (some .undef) w x=some .undef:=rfl
@[simp] theorem aq1{c b w:Bool}{v:V}{x:Option V}:jC (some (kO c (.bool b) v)) w x=kO c (jC (some (.bool b)) w x) (jC (some v) w x):=by cases c<;>rfl
@[simp] theorem aq2{c b w:Bool}{v:V}{x:Option V}:jC (some (kO c v (.bool b))) w x=kO c (jC (some v) w x) (jC (some (.bool b)) w x):=by cases c<;>rfl
def xz(t:Option V)(x y:Option V):Option V:=match t with
 |some (.bool b)=>kO b x y
 |_=>none
@[simp] theorem aq3{b:Bool}{x y:Option V}:xz (some (.bool b)) x y=kO b x y:=rfl
def kA(L:bw)(d:Nat)(S:St)(os:List bH)(keep:cY)(k:cz):V→Prop:=fun v=>dW L os keep k (S.put (some d) v)
@[simp] theorem aq4{L:bw}{d:Nat}{S:St}{os:List bH}{keep:cY}{k:cz}{v:V}:kA L d S os keep k v=dW L os keep k { S with env:=(d,v)::S.env }:=rfl
theorem nY{L:bw}{d g:Nat}{w:Bool}{op:VO}{x:Option V}{S:St}{os:List bH}{keep:cY}{k:cz}(ah:op.run L (some d) S=x.map (S.put (some d))) :
  cJ (bH.run L ⟨some d,op,some (g,w)⟩ S) (dW L os keep k)=cJ (jC (look g S.env) w x) (kA L d S os keep k):=by
 unfold bH.run jC;simp only;cases look g S.env with
 |none=>simp[cJ]
 |some v =>
  cases v with
  |bool b =>
   simp only[ah];cases b==w with
   |true=>cases x<;>simp[cJ,kA]
   |false=>simp[cJ,kA]
  |undef=>simp[cJ,kA]
  |_=>simp[cJ]
@[simp high] theorem aq5{L:bw}{d:Nat}{c a b:bq}{os:List bH}{keep:cY}{k:cz}{S:St} :
  dW L (⟨some d,.pick c a b,none⟩::os) keep k S=cJ (xz (S.ev c) (S.ev a) (S.ev b)) (kA L d S os keep k):=by
 rw[iD];simp only[bH.run,VO.run];rcases S.ev c with _|v
 ·simp[cJ,xz]
 ·cases v with
  |bool t =>
   cases t
   ·simp only[xz,kO,cond_false]
    cases S.ev b<;>simp[cJ,kA]
   ·simp only[xz,kO,cond_true]
    cases S.ev a<;>simp[cJ,kA]
  |_=>simp[cJ,xz]
@[simp] theorem aq6{L:bw}{d g:Nat}{w:Bool}{x:bq}{os:List bH}{keep:cY}{k:cz}{S:St} :
  dW L (⟨some d,.mv x,some (g,w)⟩::os) keep k S=cJ (jC (look g S.env) w (S.ev x)) (kA L d S os keep k):=by
 rw[iD];refine nY ?_;simp only[VO.run]
 repeat' split
 all_goals (first|rfl|simp_all[St.put])
@[simp] theorem aq7{L:bw}{d g:Nat}{w:Bool}{c a b:bq}{os:List bH}{keep:cY}{k:cz}{S:St} :
  dW L (⟨some d,.pick c a b,some (g,w)⟩::os) keep k S=cJ (jC (look g S.env) w (xz (S.ev c) (S.ev a) (S.ev b))) (kA L d S os keep k):=by
 rw[iD];refine nY ?_;simp only[VO.run];rcases S.ev c with _|v
 ·rfl
 ·cases v with
  |bool t =>
   cases t
   ·simp only[xz,kO,cond_false]
    cases S.ev b<;>rfl
   ·simp only[xz,kO,cond_true]
    cases S.ev a<;>rfl
  |_=>rfl
@[simp] theorem aq8{L:bw}{d g:Nat}{w:Bool}{z:List V}{ps:List (Nat×Nat×bq)}{os:List bH}{keep:cY}{k:cz}{S:St} :
  dW L (⟨some d,.build z ps,some (g,w)⟩::os) keep k S=cJ (jC (look g S.env) w (match qn S ps z with|some cs=>some (.agg cs)|none=>none)) (kA L d S os keep k):=by
 rw[iD];refine nY ?_;simp only[VO.run]
 repeat' split
 all_goals (first|rfl|simp_all[St.put])
@[simp] theorem aq9{L:bw}{d g:Nat}{w:Bool}{r:jx}{z:Option Nat}{p:bq}{os:List bH}{keep:cY}{k:cz}{S:St} :
  dW L (⟨some d,.load r z p,some (g,w)⟩::os) keep k S=cJ (jC (look g S.env) w (match S.ev p with|some v=>bif r.fits v then (match S.nF v with|some (cs,off)=>(loadAt z cs off).map (Av r)|none=>none) else none|none=>none)) (kA L d S os keep k):=by
 rw[iD];refine nY ?_;simp only[VO.run];rcases S.ev p with _|v
 ·rfl
 ·simp only
  cases r.fits v with
  |false=>rfl
  |true =>
   rcases S.nF v with _ | ⟨cs,off⟩
   ·rfl
   ·simp only[cond_true]
    rcases loadAt z cs off with _|u<;>rfl
@[simp] theorem ara{L:bw}{d g:Nat}{w:Bool}{x:bq}{os:List bH}{keep:cY}{k:cz}{S:St} :
  dW L (⟨some d,.sC x,some (g,w)⟩::os) keep k S=cJ (jC (look g S.env) w (match S.ev x with|some (.bf i o)=>some (.bf i o)|some (.bG i o)=>some (.bG i o)|some (.eR r o)=>some (.eR r o)|_=>none)) (kA L d S os keep k):=by
 rw[iD];refine nY ?_;simp only[VO.run]
 repeat' split
 all_goals (first|rfl|simp_all[St.put])
@[simp] theorem arb{L:bw}{d g:Nat}{w:Bool}{o:BinOp}{x y:bq}{os:List bH}{keep:cY}{k:cz}{S:St} :
  dW L (⟨some d,.bin o x y,some (g,w)⟩::os) keep k S=cJ (jC (look g S.env) w (match S.ev x,S.ev y with|some a,some b=>V.bin o a b|_,_=>none)) (kA L d S os keep k):=by
 rw[iD];refine nY ?_;simp only[VO.run]
 repeat' split
 all_goals (first|rfl|simp_all[St.put])
@[simp] theorem arc{L:bw}{d g:Nat}{w:Bool}{n:Bool}{x y:bq}{os:List bH}{keep:cY}{k:cz}{S:St} :
  dW L (⟨some d,.beq n x y,some (g,w)⟩::os) keep k S=cJ (jC (look g S.env) w (match S.ev x,S.ev y with|some (.bool a),some (.bool b)=>some (.bool (bif n then a != b else a==b))|_,_=>none)) (kA L d S os keep k):=by
 rw[iD];refine nY ?_;simp only[VO.run]
 repeat' split
 all_goals (first|rfl|simp_all[St.put])
@[simp] theorem ard{L:bw}{d g:Nat}{w:Bool}{n:Bool}{ks:List Nat}{x y:bq}{os:List bH}{keep:cY}{k:cz}{S:St} :
  dW L (⟨some d,.iy n ks x y,some (g,w)⟩::os) keep k S=cJ (jC (look g S.env) w (match S.ev x,S.ev y with|some a,some b=>V.iy n ks a b|_,_=>none)) (kA L d S os keep k):=by
 rw[iD];refine nY ?_;simp only[VO.run]
 repeat' split
 all_goals (first|rfl|simp_all[St.put])
@[simp] theorem are{L:bw}{d g:Nat}{w:Bool}{o:UnOp}{x:bq}{os:List bH}{keep:cY}{k:cz}{S:St} :
  dW L (⟨some d,.un o x,some (g,w)⟩::os) keep k S=cJ (jC (look g S.env) w (match S.ev x with|some a=>V.un o a|none=>none)) (kA L d S os keep k):=by
 rw[iD];refine nY ?_;simp only[VO.run]
 repeat' split
 all_goals (first|rfl|simp_all[St.put])
@[simp] theorem arf{L:bw}{d g:Nat}{w:Bool}{kk:IntKind}{x:bq}{os:List bH}{keep:cY}{k:cz}{S:St} :
  dW L (⟨some d,.conv kk x,some (g,w)⟩::os) keep k S=cJ (jC (look g S.env) w (match S.ev x with|some (.int _ n)=>some (.int kk (kk.wrap n))|_=>none)) (kA L d S os keep k):=by
 rw[iD];refine nY ?_;simp only[VO.run]
 repeat' split
 all_goals (first|rfl|simp_all[St.put])
@[simp] theorem arh{L:bw}{d g:Nat}{w:Bool}{n:Nat}{x:bq}{os:List bH}{keep:cY}{k:cz}{S:St} :
  dW L (⟨some d,.ri n x,some (g,w)⟩::os) keep k S=cJ (jC (look g S.env) w (match S.ev x with|some (.bf i o)=>some (.bf i (o+n))|some (.bG i o)=>some (.bG i (o+n))|some (.eR r o)=>some (.eR r (o+n))|_=>none)) (kA L d S os keep k):=by
 rw[iD];refine nY ?_;simp only[VO.run]
 repeat' split
 all_goals (first|rfl|simp_all[St.put])
@[simp] theorem ari{L:bw}{d g:Nat}{w:Bool}{x:bq}{os:List bH}{keep:cY}{k:cz}{S:St} :
  dW L (⟨some d,.len x,some (g,w)⟩::os) keep k S=cJ (jC (look g S.env) w (match S.ev x with|some .bV=>some (.int .i64 0)|some (.dR _)=>some (.int .i64 0)|some (.fu _)=>some (.int .i64 0)|some (.slice _ _ es)=>some (.int .i64 es.length)|some (.bQ _ _ n)=>some (.int .i64 n)|some (.dh _ _ n)=>some (.int .i64 n)|_=>none)) (kA L d S os keep k):=by
 rw[iD];refine nY ?_;simp only[VO.run]
 repeat' split
 all_goals (first|rfl|simp_all[St.put])
@[simp] theorem arj{L:bw}{d g:Nat}{w:Bool}{x:bq}{os:List bH}{keep:cY}{k:cz}{S:St} :
  dW L (⟨some d,.tx x,some (g,w)⟩::os) keep k S=cJ (jC (look g S.env) w (match S.ev x with|some (.str s)=>some (.int .i64 s.length)|_=>none)) (kA L d S os keep k):=by
 rw[iD];refine nY ?_;simp only[VO.run]
 repeat' split
 all_goals (first|rfl|simp_all[St.put])
@[simp] theorem ark{L:bw}{d g:Nat}{w:Bool}{x:bq}{i:Nat}{os:List bH}{keep:cY}{k:cz}{S:St} :
  dW L (⟨some d,.ext x i,some (g,w)⟩::os) keep k S=cJ (jC (look g S.env) w (match S.ev x with|some (.tuple vs)=>vs[i]? | _=>none)) (kA L d S os keep k):=by
 rw[iD];refine nY ?_;simp only[VO.run]
 repeat' split
 all_goals (first|rfl|simp_all[St.put])
@[simp] theorem arl{L:bw}{d g:Nat}{w:Bool}{n:Nat}{z:Option Nat}{x:bq}{os:List bH}{keep:cY}{k:cz}{S:St} :
  dW L (⟨some d,.field n z x,some (g,w)⟩::os) keep k S=cJ (jC (look g S.env) w (match S.ev x with|some (.agg cs)=>loadAt z cs n|_=>none)) (kA L d S os keep k):=by
 rw[iD];refine nY ?_;simp only[VO.run]
 repeat' split
 all_goals (first|rfl|simp_all[St.put])
@[simp] theorem arn{L:bw}{d g:Nat}{w:Bool}{m:Bool}{x y:bq}{os:List bH}{keep:cY}{k:cz}{S:St} :
  dW L (⟨some d,.mm m x y,some (g,w)⟩::os) keep k S=cJ (jC (look g S.env) w (match S.ev x,S.ev y with|some (.int k a),some (.int _ b)=>some (.int k (bif m then max a b else min a b))|_,_=>none)) (kA L d S os keep k):=by
 rw[iD];refine nY ?_;simp only[VO.run];rcases S.ev x with _|a
 ·rfl
 ·rcases S.ev y with _|b
  ·cases a<;>rfl
  ·cases a<;>cases b<;>rfl
@[simp] theorem aro{L:bw}{d g:Nat}{w:Bool}{m:Bool}{x y z:bq}{os:List bH}{keep:cY}{k:cz}{S:St} :
  dW L (⟨some d,.tA m x y z,some (g,w)⟩::os) keep k S=cJ (jC (look g S.env) w (match S.ev x,S.ev y,S.ev z with|some (.int k a),some (.int _ b),some (.int _ c)=>some (.int k (bif m then max (max a b) c else min (min a b) c))|_,_,_=>none)) (kA L d S os keep k):=by
 rw[iD];refine nY ?_;simp only[VO.run];rcases S.ev x with _|a
 ·rfl
 ·rcases S.ev y with _|b
  ·cases a<;>rfl
  ·rcases S.ev z with _|c
   ·cases a<;>cases b<;>rfl
   ·cases a<;>cases b<;>cases c<;>rfl
@[simp] theorem arp{L:bw}{d g:Nat}{w:Bool}{n z:Nat}{a:Bool}{x i:bq}{os:List bH}{keep:cY}{k:cz}{S:St} :
  dW L (⟨some d,.idx n z a x i,some (g,w)⟩::os) keep k S=cJ (jC (look g S.env) w (match S.ev x,S.ev i with|some (.agg cs),some (.int _ k)=>bif decide (0≤k)&&decide (k<n) then loadAt (bif a then some z else none) cs (k.toNat*z) else none|_,_=>none)) (kA L d S os keep k):=by
 rw[iD];refine nY ?_;simp only[VO.run];rcases S.ev x with _|v
 ·rfl
 ·rcases S.ev i with _|j
  ·cases v<;>rfl
  ·cases v with
   |agg cs =>
    cases j with
    |int kk m =>
     simp only;cases (decide (0≤m)&&decide (m<n)) with
     |false=>rfl
     |true =>
      simp only[cond_true];rcases loadAt (bif a then some z else none) cs (m.toNat*z) with _|u<;>rfl
    |_=>rfl
   |_=>cases j<;>rfl
@[simp] theorem arq{L:bw}{d g:Nat}{w:Bool}{n:Nat}{x i:bq}{os:List bH}{keep:cY}{k:cz}{S:St} :
  dW L (⟨some d,.na none n x i,some (g,w)⟩::os) keep k S=cJ (jC (look g S.env) w (match S.ev x,S.ev i with
   |some (.slice _ m es),some (.int _ k)=>bif decide (0≤k)&&(m==n) then (match es[k.toNat]? with|some r=>some (.eR r 0)|none=>none) else none
   |some (.bQ id off ln),some (.int _ k)=>bif decide (0≤k)&&decide (k<ln)&&(off==n) then some (.bf id (k.toNat*n)) else none
   |some (.dh id off ln),some (.int _ k)=>bif decide (0≤k)&&decide (k<ln)&&(off==n) then some (.bG id (k.toNat*n)) else none
   |_,_=>none)) (kA L d S os keep k):=by
 rw[iD];refine nY ?_;simp only[VO.run];rcases S.ev x with _|v
 ·rfl
 ·rcases S.ev i with _|j
  ·cases v<;>rfl
  ·cases v with
   |slice t m es =>
    cases j with
    |int kk q =>
     simp only;cases (decide (0≤q)&&(m==n)) with
     |false=>rfl
     |true =>
      simp only[cond_true];rcases es[q.toNat]? with _|u<;>rfl
    |_=>rfl
   |bQ id off ln =>
    cases j with
    |int kk q =>
     simp only;cases (decide (0≤q)&&decide (q<ln)&&(off==n)) with
     |false=>rfl
     |true=>rfl
    |_=>rfl
   |dh id off ln =>
    cases j with
    |int kk q =>
     simp only;cases (decide (0≤q)&&decide (q<ln)&&(off==n)) with
     |false=>rfl
     |true=>rfl
    |_=>rfl
   |_=>cases j<;>rfl
def nth{α:Type}[Inhabited α](l:List α)(i:Nat):α:=l.getD i default
theorem aW{α:Type}[Inhabited α]{l:List α}{i:Nat}(h:i<l.length):l[i]?=some (nth l i):=by
 simp[nth,List.getD,h]
theorem dj{l:List Int}{i:Nat}(h:i<l.length):l[i]?=some (nth l i):=aW h
def lk{α:Type}(b:Bool)(v:α)(s:Nat)(r:List (Nat×α)):Option α:=bif b then some v else look s r
@[simp] theorem ars{α:Type}{s k:Nat}{v:α}{r:List (Nat×α)}:look s ((k,v)::r)=lk (k==s) v s r:=rfl
@[simp] theorem art{α:Type}{s:Nat}:look s ([]:List (Nat×α))=none:=rfl
@[simp] theorem aru{α:Type}{s:Nat}{v:α}{r:List (Nat×α)}:lk true v s r=some v:=rfl
@[simp] theorem arv{α:Type}{s:Nat}{v:α}{r:List (Nat×α)}:lk false v s r=look s r:=rfl
def vi{α:Type}(d:Nat)(l:List (Nat×α)):List (Nat×α):=l.filter fun p => !(p.1==d)
def Is{α:Type}(b:Bool)(k:Nat)(v:α)(r:List (Nat×α)):List (Nat×α):=bif b then r else (k,v)::r
@[simp] theorem arw{α:Type}{k:Nat}{v:α}{r:List (Nat×α)}:Is true k v r=r:=rfl
@[simp] theorem arx{α:Type}{k:Nat}{v:α}{r:List (Nat×α)}:Is false k v r=(k,v)::r:=rfl
@[simp] theorem ary{α:Type}{d:Nat}:vi d ([]:List (Nat×α))=[]:=rfl
@[simp] theorem arz{α:Type}{d k:Nat}{v:α}{r:List (Nat×α)}:vi d ((k,v)::r)=Is (k==d) k v (vi d r):=by
 unfold vi Is;cases h:k==d<;>simp[List.filter,h]
@[simp] theorem arA{α:Type}{d:Nat}{l:List (Nat×α)}:(l.filter fun p => !(p.1==d))=vi d l:=rfl
@[simp] theorem arB{S:St}:S.clean []=some S:=rfl
@[simp] theorem arC{S:St}{d:Nat}{ds:List Nat}:S.clean (d::ds)=bif ((vi d S.env).all fun p => !p.2.cj d)&&((vi d S.aU).all fun p=>p.2.all fun v => !v.cD d) then
  St.clean { env:=vi d S.env,aU:=vi d S.aU,bg:=vi d S.bg,aF:=S.aF } ds else none:=rfl
theorem Fc{α β:Type}{a:α}{b:β}{k:α→β→Prop}:(∃e T,(a=e∧b=T)∧k e T)↔k a b :=
 ⟨fun⟨_,_,⟨h,h'⟩,hk⟩=>by subst h;subst h';exact hk,fun h=>⟨_,_,⟨rfl,rfl⟩,h⟩⟩
def Tm(L:bw)(ids:List Nat)(os:List bH)(keep:cY)(k:cz):St→Prop:=fun S=>cJ (S.clean ids) (dW L os keep k)
@[simp] theorem aeZ{L:bw}{ids:List Nat}{os:List bH}{keep:cY}{k:cz}{S:St}:Tm L ids os keep k S=cJ (S.clean ids) (dW L os keep k):=rfl
@[simp] theorem arD{L:bw}{gh:List gG}{S:St}{k:cz}:go L (.As gh) S k=cJ (nc gh S) (k .ret):=by
 refine propext ⟨?_,?_⟩
 ·rintro⟨n,e,T,h,hk⟩
  simp only[VC.run]at h;split at h
  ·rename_i S' h1;cases h;exact⟨_,h1,hk⟩
  ·cases h
 ·rintro⟨S',h1,hk⟩
  exact⟨0,_,_,by simp only[VC.run,h1],hk⟩
@[simp] theorem arE{L:bw}{S:St}{k:cz}:go L .dead S k=False:=by simp[go,VC.run,Fc]
@[simp] theorem go_skip{L:bw}{S:St}{k:cz}:go L .skip S k=k .normal S:=by simp[go,VC.run,Fc]
@[simp] theorem arF{L:bw}{S:St}{k:cz}{i:Nat}:go L (.exit i) S k=k (.exit i) S:=by simp[go,VC.run,Fc]
@[simp] theorem go_ret{L:bw}{S:St}{k:cz}:go L .ret S k=k .ret S:=by simp[go,VC.run,Fc]
@[simp] theorem go_region{L:bw}{gh:List gG}{ids:List Nat}{os:List bH}{keep:cY}{S:St}{k:cz} :
  go L (.region gh ids os keep) S k=cJ (nc gh S) (Tm L ids os keep k):=by
 unfold go cJ;simp only[VC.run,aeZ];cases nc gh S with
 |none=>simp
 |some S1 =>
  simp only[Option.some.injEq,exists_eq_left',cJ];cases S1.clean ids with
  |none=>simp
  |some S2 =>
   simp only[Option.some.injEq,exists_eq_left',dW];cases gL L os S2 with
   |none=>simp
   |some S3=>simp[Fc]
@[simp] theorem arG{L:bw}{a b:VC}{S:St}{k:cz}:go L (.seq a b) S k=go L a S (sq L b k):=by
 refine propext ⟨?_,?_⟩
 ·rintro⟨n,e,T,h,hk⟩
  simp only[VC.run]at h;split at h
  ·rename_i S' h1;exact⟨n,_,_,h1,n,_,_,h,hk⟩
  ·rename_i i S' h1;cases h;exact⟨n,_,_,h1,hk⟩
  ·rename_i S' h1;cases h;exact⟨n,_,_,h1,hk⟩
  ·cases h
 ·rintro⟨n,e,T,h,hk⟩
  cases e with
  |normal =>
   obtain⟨m,e,T',h',hk⟩:=hk;refine⟨n+m,e,T',?_,hk⟩;simp only[VC.run,wo (Nat.le_add_right n m) h,wo (Nat.le_add_left m n) h']
  |exit i=>exact⟨n,_,_,by simp only[VC.run,h],hk⟩
  |ret=>exact⟨n,_,_,by simp only[VC.run,h],hk⟩
@[simp] theorem arH{L:bw}{c:bq}{a b:VC}{S:St}{k:cz}:go L (.cond c a b) S k=tY (S.ev c) (go L a S k) (go L b S k):=by
 refine propext ⟨?_,?_⟩
 ·rintro⟨n,e,T,h,hk⟩
  simp only[VC.run]at h;split at h
  ·rename_i t hc
   refine⟨t,hc,?_⟩;cases t with
   |true=>exact⟨n,e,T,h,hk⟩
   |false=>exact⟨n,e,T,h,hk⟩
  ·cases h
 ·rintro⟨t,hc,h⟩
  cases t with
  |true=>obtain⟨n,e,T,h,hk⟩:=h;exact⟨n,e,T,by simp only[VC.run,hc,cond_true];exact h,hk⟩
  |false=>obtain⟨n,e,T,h,hk⟩:=h;exact⟨n,e,T,by simp only[VC.run,hc,cond_false];exact h,hk⟩
@[simp] theorem arI{L:bw}{id:Nat}{a:VC}{S:St}{k:cz}:go L (.block id a) S k=go L a S (bk id k):=by
 refine propext ⟨?_,?_⟩
 ·rintro⟨n,e,T,h,hk⟩
  simp only[VC.run]at h;split at h
  ·rename_i S' h1;cases h;exact⟨n,_,_,h1,hk⟩
  ·rename_i i S' h1
   refine⟨n,_,_,h1,?_⟩;cases hi:i==id with
   |true=>simp only[hi,cond_true]at h;cases h;simp only[bk,hi,cond_true];exact hk
   |false=>simp only[hi,cond_false]at h;cases h;simp only[bk,hi,cond_false];exact hk
  ·rename_i S' h1;cases h;exact⟨n,_,_,h1,hk⟩
  ·cases h
 ·rintro⟨n,e,T,h,hk⟩
  cases e with
  |normal=>exact⟨n,_,_,by simp only[VC.run,h],hk⟩
  |exit i =>
   cases hi:i==id with
   |true=>simp only[bk,hi,cond_true]at hk;exact⟨n,_,_,by simp only[VC.run,h,hi,cond_true],hk⟩
   |false=>simp only[bk,hi,cond_false]at hk;exact⟨n,_,_,by simp only[VC.run,h,hi,cond_false],hk⟩
  |ret=>exact⟨n,_,_,by simp only[VC.run,h],hk⟩
def It{α:Type}(keep:cY)(st:α→St)(I:α→Prop)(mu:α→Nat)(m:Nat)(k:cz):cz:=fun e T=>match e with
 |.normal=>∃y,T.keep keep=st y∧I y∧mu y<m
 |.exit i=>k (.exit i) T
 |.ret=>k .ret T
@[simp] theorem arJ{α:Type}{keep:cY}{st:α→St}{I:α→Prop}{mu:α→Nat}{m:Nat}{k:cz}{T:St}{i:Nat}:It keep st I mu m k (.exit i) T=k (.exit i) T:=rfl
@[simp] theorem arK{α:Type}{keep:cY}{st:α→St}{I:α→Prop}{mu:α→Nat}{m:Nat}{k:cz}{T:St}:It keep st I mu m k .ret T=k .ret T:=rfl
theorem bF{α:Type}{keep:cY}{st:α→St}{I:α→Prop}{mu:α→Nat}{m:Nat}{k:cz}{T:St}(y:α)(h:T.keep keep=st y)(hi:I y)(hm:mu y<m):It keep st I mu m k .normal T:=⟨y,h,hi,hm⟩
theorem go_loop{α:Type}{L:bw}{c:VC}{gh:List gG}{keep:cY}{a:VC}{k:cz}{S:St}(st:α→St)(I:α→Prop)(mu:α→Nat)(x:α)(hc:c=.loop gh keep a)(hS:cJ (nc gh S) fun S=>S.keep keep=st x)(hI:I x)
  (step:∀x,I x→go L a (st x) (It keep st I mu (mu x) k)):go L c S k:=by
 subst hc;obtain⟨S1,hg,hS⟩:=hS
 suffices h:∀m x S,S.keep keep=st x→mu x<m→I x→∃n e T,iter (fun S=>VC.run L n a (S.keep keep)) n S=some (e,T)∧k e T by
  obtain⟨n,e,T,h1,h2⟩:=h (mu x+1) x S1 hS (by omega) hI
  exact⟨n,e,T,by simp only[VC.run,hg];exact h1,h2⟩
 intro m;induction m with
 |zero=>intro x S _ h;omega
 |succ m ih =>
  intro x S hS hm hI;obtain⟨n,e,T,h1,h2⟩:=step x hI;rw[←hS]at h1;cases e with
  |normal =>
   obtain⟨y,hT,hy,bA⟩:=h2;obtain⟨n',e,T,h3,h4⟩:=ih y T hT (by omega) hy
   refine⟨n+n'+1,e,T,?_,h4⟩;simp only[iter];rw[wo (by omega) h1]
   exact E7 (fun S x h=>wo (by omega) h) (by omega) h3
  |exit i=>exact⟨n+1,_,_,by simp only[iter];rw[wo (by omega) h1],h2⟩
  |ret=>exact⟨n+1,_,_,by simp only[iter];rw[wo (by omega) h1],h2⟩
def gy(L:bw)(f:FuncId)(args:List V)(G:List aP)(Q:V→List aP→Prop):Prop:=∃r G',L f args G=some (r,G')∧Q r G'
def xA(rs:List rm)(Q:V→List aP→Prop):cz:=fun e T=>match e with
 |.normal=>cJ (uM T rs) fun v=>Q v T.aF
 |.ret=>cJ (uM T rs) fun v=>Q v T.aF
 |.exit _=>False
@[simp] theorem arL{rs:List rm}{Q:V→List aP→Prop}{T:St}:xA rs Q .normal T=cJ (uM T rs) fun v=>Q v T.aF:=rfl
@[simp] theorem arM{rs:List rm}{Q:V→List aP→Prop}{T:St}:xA rs Q .ret T=cJ (uM T rs) fun v=>Q v T.aF:=rfl
theorem gS{F:FuncId→Option bb}{f:FuncId}{vf:bb}(hf:F f=some vf){args:List V}{G:List aP}{Q:V→List aP→Prop}(hl:(args.length==vf.nparams&&vf.defs.isEmpty&&vf.split.isNone)=true)
  (h:go (aX F) vf.body { env:=oT 0 args,aU:=[],bg:=[],aF:=G } (xA vf.results Q)):gy (aX F) f args G Q:=by
 simp only[Bool.and_eq_true,List.isEmpty_iff,Option.isNone_iff_eq_none]at hl;obtain⟨⟨hl,hd⟩,hs⟩:=hl;obtain⟨n,e,T,h1,h2⟩:=h;cases e with
 |exit i=>exact h2.elim
 |normal =>
  obtain⟨v,h3,h4⟩:=h2;exact⟨v,T.aF,Ta hf (n:=n) hd hs (by simp only[bb.call,hl,cond_true,h1,h3]),h4⟩
 |ret =>
  obtain⟨v,h3,h4⟩:=h2;exact⟨v,T.aF,Ta hf (n:=n) hd hs (by simp only[bb.call,hl,cond_true,h1,h3]),h4⟩
theorem ae0{F:FuncId→Option bb}{f:FuncId}{vf:bb}(hf:F f=some vf){i off:Nat}{G:List aP}{Q:V→List aP→Prop}(hl:(1==vf.nparams && !vf.defs.isEmpty&&vf.split.isNone)=true)
  (h:go (aX F) vf.body { env:=oT 0 [.bG i off],aU:=[],bg:=[],aF:=G } (xA vf.results fun _ G1=>∃G2,oU (aX F) [.bG i off] vf.defs.reverse G1=some G2∧Q (.tuple []) G2)):gy (aX F) f [.bG i off] G Q:=by
 simp only[Bool.and_eq_true,Bool.not_eq_true',List.isEmpty_eq_false_iff,Option.isNone_iff_eq_none]at hl;obtain⟨⟨hl,hd⟩,hs⟩:=hl;obtain⟨n,e,T,h1,h2⟩:=h;cases e with
 |exit i=>exact h2.elim
 |normal =>
  obtain⟨v,h3,G2,h4,h5⟩:=h2;exact⟨_,G2,Tc hf (n:=n) hd hs (r:=v) (by simp only[bb.call,List.length_singleton,hl,cond_true,h1,h3]) h4,h5⟩
 |ret =>
  obtain⟨v,h3,G2,h4,h5⟩:=h2;exact⟨_,G2,Tc hf (n:=n) hd hs (r:=v) (by simp only[bb.call,List.length_singleton,hl,cond_true,h1,h3]) h4,h5⟩
theorem bM{F:FuncId→Option bb}{f:FuncId}{vf:bb}(hf:F f=some vf){args:List V}{G G':List aP}{r:V}(hl:(args.length==vf.nparams&&vf.defs.isEmpty&&vf.split.isNone)=true)
  (h:go (aX F) vf.body { env:=oT 0 args,aU:=[],bg:=[],aF:=G } (xA vf.results fun v G1=>v=r∧G1=G')):aX F f args G=some (r,G'):=by
 obtain⟨_,_,h1,rfl,rfl⟩:=gS hf hl h;exact h1
theorem Mr{F:FuncId→Option bb}{f:FuncId}{vf:bb}(hf:F f=some vf){args:List V}{G G':List aP}{r:V}{p m:Nat}(hl:(args.length==vf.nparams&&vf.defs.isEmpty)=true)(hs:vf.split=some p)(hp:args[p]?=some (.slice none m []))
  (h:go (aX F) vf.body { env:=oT 0 (args.set p .bV),aU:=[],bg:=[],aF:=G } (xA vf.results fun v G1=>v=r∧G1=G'))
  (h':go (aX F) vf.body { env:=oT 0 (args.set p (.fu m)),aU:=[],bg:=[],aF:=G } (xA vf.results fun v G1=>v=r∧G1=G')):aX F f args G=some (r,G'):=by
 simp only[Bool.and_eq_true,List.isEmpty_iff]at hl;obtain⟨hl,hd⟩:=hl;have key:∀u,go (aX F) vf.body { env:=oT 0 (args.set p u),aU:=[],bg:=[],aF:=G } (xA vf.results fun v G1=>v=r∧G1=G')→∃n,vf.call (aX F) n (args.set p u) G=some (r,G'):=fun u h=>by
  obtain⟨n,e,T,h1,h2⟩:=h;have Iu:((args.set p u).length==vf.nparams)=true:=by rw[List.length_set];exact hl
  cases e with
  |exit i=>exact h2.elim
  |normal =>
   obtain⟨v,h3,rfl,rfl⟩:=h2;exact⟨n,by simp only[bb.call,Iu,cond_true,h1,h3]⟩
  |ret =>
   obtain⟨v,h3,rfl,rfl⟩:=h2;exact⟨n,by simp only[bb.call,Iu,cond_true,h1,h3]⟩
 obtain⟨n,h1⟩:=key _ h;obtain⟨k,h2⟩:=key _ h';exact aeQ hf hd hs hp h1 h2
theorem Ms{F:FuncId→Option bb}{f:FuncId}{vf:bb}(hf:F f=some vf){args:List V}{G G':List aP}{r:V}{p:Nat}(hl:(args.length==vf.nparams&&vf.defs.isEmpty)=true)(hs:vf.split=some p)(hp:∀m,args[p]?≠some (.slice none m []))
  (h:go (aX F) vf.body { env:=oT 0 args,aU:=[],bg:=[],aF:=G } (xA vf.results fun v G1=>v=r∧G1=G')):aX F f args G=some (r,G'):=by
 simp only[Bool.and_eq_true,List.isEmpty_iff]at hl;obtain⟨hl,hd⟩:=hl;obtain⟨n,e,T,h1,h2⟩:=h;cases e with
 |exit i=>exact h2.elim
 |normal =>
  obtain⟨v,h3,rfl,rfl⟩:=h2;exact Tb hf (n:=n) hd hs hp (by simp only[bb.call,hl,cond_true,h1,h3])
 |ret =>
  obtain⟨v,h3,rfl,rfl⟩:=h2;exact Tb hf (n:=n) hd hs hp (by simp only[bb.call,hl,cond_true,h1,h3])
abbrev i64(n:Int):V:=.int .i64 n
theorem wrap64{n:Int}(h1:-9223372036854775808≤n)(h2:n≤9223372036854775807):IntKind.i64.wrap n=n:=by
 simp[IntKind.wrap,IntKind.bits,IntKind.signed];omega
def rep{α:Type}(n:Nat)(x:α):List α:=List.replicate n x
@[simp] theorem arN{α:Type}{n:Nat}{x:α}:(rep n x).length=n:=by simp[rep]
def ek(n:Nat)(f:Nat→Int):List V:=(List.range n).map fun j=>.int .i64 (f j)
@[simp] theorem arO{n:Nat}{f:Nat→Int}:(ek n f).length=n:=by simp[ek]
theorem C3{n:Nat}{f g:Nat→Int}(h:∀j,j<n→f j=g j):ek n f=ek n g:=by
 unfold ek;apply List.map_congr_left;intro j hj;rw[h j (by simpa using hj)]
theorem nk{n:Nat}{f:Nat→Int}{i:Nat}(h:i<n):(ek n f)[i]?=some (.int .i64 (f i)):=by simp[ek,h]
@[simp] theorem arP{n:Nat}{f:Nat→Int}{i:Nat}{v:Int}:(ek n f).set i (.int .i64 v)=ek n fun j=>if j=i then v else f j:=by
 apply List.ext_getElem?;intro k;by_cases hk:k<n
 ·by_cases h:i=k
  ·subst h
   rw[List.getElem?_set_self (by simpa using hk),nk hk]
   simp
  ·rw[List.getElem?_set_ne h,nk hk,nk hk,if_neg (fun e=>h e.symm)]
 ·rw[List.getElem?_eq_none (by simp;omega),List.getElem?_eq_none (by simp;omega)]
@[simp] theorem arQ{n:Nat}{f:Nat→Int}:(ek n f).all V.cI=true:=by
 simp[ek,V.cI]
@[simp] theorem arR{n:Nat}{f:Nat→Int}{d:Nat}:(ek n f).all (fun v => !v.cD d)=true:=by
 simp[ek,V.cD]
@[simp] theorem arS{n:Nat}{f:Nat→Int}:(ek n f).all V.iz=true:=by
 simp[ek,V.iz,V.plain]
@[simp] theorem arT{n:Nat}{f:Nat→Int}:(ek n f).map gY=ek n f:=by
 simp[ek,gY]
@[simp] theorem arU{n:Nat}{f:Nat→Int}:(ek n f).map strip=ek n f:=by
 simp[ek,strip,gY]
@[simp] theorem arV{n:Nat}{f:Nat→Int}{d:Nat}:(ek n f).any (V.cD d)=false:=by
 simp[ek,V.cD]
@[simp] theorem ae1{n:Nat}{f:Nat→Int}:(ek n f).take n=ek n f:=List.take_of_length_le (by simp)
theorem Tn{S:St}{used:List Nat}{α:Type}(g:α→Int):∀l:List α,mL S (List.replicate l.length none) used (l.map fun j=>.int .i64 (g j))=some (l.map fun j=>.int .i64 (g j),used)
 |[]=>rfl
 |a::l=>by simp[List.replicate_succ,mL,yP,oR,el,Tn g l]
@[simp] theorem arW{S:St}{used:List Nat}{n:Nat}{f:Nat→Int}:mL S (rep n none) used (ek n f)=some (ek n f,used):=by
 unfold rep;have:=Tn (S:=S) (used:=used) f (List.range n)
 rwa [List.length_range]at this
@[simp] theorem To{n:Nat}:rep n (V.int .i64 0)=ek n fun _=>0:=by
 simp[rep,ek,List.map_const']
theorem Tp:∀(cs:List V) (off:Nat) (vs:List V),off+vs.length≤cs.length→jg cs off vs=cs.take off++vs++cs.drop (off+vs.length)
 |cs,off,[],h=>by simp[jg]
 |cs,off,v::vs,h=>by
  simp only[List.length_cons]at h;rw[jg,Tp _ _ _ (by simp;omega)]
  apply List.ext_getElem?;intro i;simp only[List.length_cons,List.getElem?_append,List.length_take,List.length_append,List.length_set,List.getElem?_take,List.getElem?_set,List.getElem?_drop,List.getElem?_cons];rcases Nat.lt_trichotomy i off with h1|h1|h1
  ·simp (disch:=omega) [h1,if_pos,if_neg]
  ·subst h1
   grind
  ·grind
theorem ae2{cs vs:List V}(h:vs.length=cs.length):jg cs 0 vs=vs:=by
 rw[Tp _ _ _ (by omega)]
 simp[h]
@[simp] theorem arX{n:Nat}{f g:Nat→Int}:jg (ek n f) 0 (ek n g)=ek n g:=ae2 (by simp)
@[simp] theorem sm0{d:Nat} :
  V.cD d .undef=false ∧
  V.dz d .undef=false ∧
  V.cj d .undef=false ∧
  V.cD d .bV=false ∧
  V.dz d .bV=false ∧
  V.cj d .bV=false ∧
  V.cD d .fY=false ∧
  V.dz d .fY=false ∧
  V.cj d .fY=false ∧
  V.cD d .fZ=false ∧
  V.dz d .fZ=false ∧
  V.cj d .fZ=false ∧
  V.cD d .gd=false ∧
  V.dz d .gd=false ∧
  V.cj d .gd=false:=by and_intros<;>rfl
@[simp] theorem sm1  :
  V.cI .undef=false ∧
  V.cells .undef=[.undef] ∧
  V.plain .undef=false ∧
  V.iz .undef=false ∧
  V.iL .undef=false ∧
  V.lone .undef=false ∧
  gY .undef=.undef ∧
  strip .undef=.undef ∧
  V.cI .bV=true ∧
  V.cells .bV=[.bV] ∧
  V.plain .bV=true ∧
  V.iz .bV=true ∧
  V.iL .bV=true ∧
  V.lone .bV=true ∧
  gY .bV=.bV ∧
  strip .bV=.bV ∧
  V.cI .fY=true ∧
  V.cells .fY=[.fY] ∧
  V.plain .fY=false ∧
  V.iz .fY=false ∧
  V.iL .fY=false ∧
  V.lone .fY=false ∧
  gY .fY=.fY ∧
  strip .fY=.fY ∧
  V.cI .fZ=true ∧
  V.cells .fZ=[.fZ] ∧
  V.plain .fZ=false ∧
  V.iz .fZ=false ∧
  V.iL .fZ=false ∧
  V.lone .fZ=false ∧
  gY .fZ=.fZ ∧
  strip .fZ=.fZ ∧
  V.cI .gd=true ∧
  V.cells .gd=[.gd] ∧
  V.plain .gd=false ∧
  V.iz .gd=false ∧
  V.iL .gd=false ∧
  V.lone .gd=false ∧
  gY .gd=.gd ∧
  strip .gd=.gd ∧
  V.ko .bV=.bV ∧
  V.kX .bV=.bV ∧
  V.ko .fY=.fY ∧
  V.kX .fY=.fY ∧
  V.ko .fZ=.fZ ∧
  V.kX .fZ=.fZ ∧
  V.ko .gd=.gd ∧
  V.kX .gd=.gd:=by and_intros<;>rfl
@[simp] theorem sm2{k:IntKind}{n:Int}{d:Nat} :
  V.cD d (.int k n)=false ∧
  V.dz d (.int k n)=false ∧
  V.cj d (.int k n)=false:=by and_intros<;>rfl
@[simp] theorem sm3{k:IntKind}{n:Int} :
  V.cI (.int k n)=true ∧
  V.cells (.int k n)=[.int k n] ∧
  V.plain (.int k n)=true ∧
  V.iz (.int k n)=true ∧
  V.iL (.int k n)=true ∧
  V.lone (.int k n)=true ∧
  gY (.int k n)=.int k n ∧
  strip (.int k n)=.int k n ∧
  V.ko (.int k n)=.int k n ∧
  V.kX (.int k n)=.int k n:=by and_intros<;>rfl
@[simp] theorem sm4{b:Bool}{d:Nat} :
  V.cD d (.bool b)=false ∧
  V.dz d (.bool b)=false ∧
  V.cj d (.bool b)=false:=by and_intros<;>rfl
@[simp] theorem sm5{b:Bool} :
  V.cI (.bool b)=true ∧
  V.cells (.bool b)=[.bool b] ∧
  V.plain (.bool b)=true ∧
  V.iz (.bool b)=true ∧
  V.iL (.bool b)=true ∧
  V.lone (.bool b)=true ∧
  gY (.bool b)=.bool b ∧
  strip (.bool b)=.bool b ∧
  V.ko (.bool b)=.bool b ∧
  V.kX (.bool b)=.bool b:=by and_intros<;>rfl
@[simp] theorem sm6{s:List UInt8}{d:Nat} :
  V.cD d (.str s)=false ∧
  V.dz d (.str s)=false ∧
  V.cj d (.str s)=false:=by and_intros<;>rfl
@[simp] theorem sm7{s:List UInt8} :
  V.cI (.str s)=true ∧
  V.cells (.str s)=[.str s] ∧
  V.plain (.str s)=true ∧
  V.iz (.str s)=true ∧
  V.iL (.str s)=true ∧
  V.lone (.str s)=true ∧
  gY (.str s)=.str s ∧
  strip (.str s)=.str s ∧
  V.ko (.str s)=.str s ∧
  V.kX (.str s)=.str s:=by and_intros<;>rfl
@[simp] theorem sm8{z:Nat}{es:List (List V)}{d:Nat} :
  V.cD d (.slice none z es)=false ∧
  V.dz d (.slice none z es)=false ∧
  V.cj d (.slice none z es)=false:=by and_intros<;>rfl
@[simp] theorem sm9{z:Nat}{es:List (List V)} :
  V.cI (.slice none z es)=true ∧
  V.cells (.slice none z es)=[.slice none z es] ∧
  V.plain (.slice none z es)=true ∧
  V.iz (.slice none z es)=true ∧
  V.iL (.slice none z es)=true ∧
  V.lone (.slice none z es)=true ∧
  gY (.slice none z es)=.slice none z es ∧
  strip (.slice none z es)=.slice none z es:=by and_intros<;>rfl
@[simp] theorem ar8{t z:Nat}{es:List (List V)}{d:Nat} :
  V.cD d (.slice (some t) z es:V)=(t==d) ∧
  V.dz d (.slice (some t) z es:V)=(t==d) ∧
  V.cj d (.slice (some t) z es:V)=(t==d):=by and_intros<;>rfl
@[simp] theorem ar9{t z:Nat}{es:List (List V)} :
  V.cI (.slice (some t) z es:V)=true ∧
  V.cells (.slice (some t) z es:V)=[.slice (some t) z es] ∧
  V.plain (.slice (some t) z es:V)=false ∧
  V.iz (.slice (some t) z es:V)=true ∧
  V.iL (.slice (some t) z es:V)=true ∧
  V.lone (.slice (some t) z es:V)=true ∧
  gY (.slice (some t) z es:V)=.slice none z es ∧
  strip (.slice (some t) z es:V)=.slice none z es:=by and_intros<;>rfl
@[simp] theorem asa{cs:List V}{d:Nat} :
  V.cD d (.agg cs)=true ∧
  V.dz d (.agg cs)=cs.any (V.cD d) ∧
  V.cj d (.agg cs)=cs.any (V.cD d):=by and_intros<;>rfl
@[simp] theorem asb{cs:List V} :
  V.cI (.agg cs)=false ∧
  V.cells (.agg cs)=cs ∧
  V.plain (.agg cs)=false ∧
  V.iz (.agg cs)=false ∧
  V.iL (.agg cs)=cs.all V.iz ∧
  V.lone (.agg cs)=cs.all V.iz ∧
  gY (.agg cs)=.agg cs ∧
  strip (.agg cs)=.agg (cs.map gY) ∧
  V.kX (.agg cs)=.agg (cs.map V.ko):=by and_intros<;>rfl
@[simp] theorem asd{vs:List V}{d:Nat} :
  V.cD d (.tuple vs)=true ∧
  V.dz d (.tuple vs)=true ∧
  V.cj d (.tuple vs)=vs.any (V.dz d):=by and_intros<;>rfl
@[simp] theorem ase{vs:List V} :
  V.cI (.tuple vs)=false ∧
  V.cells (.tuple vs)=[.tuple vs] ∧
  V.plain (.tuple vs)=false ∧
  V.iz (.tuple vs)=false ∧
  V.iL (.tuple vs)=false ∧
  V.lone (.tuple vs)=vs.all V.iL ∧
  gY (.tuple vs)=.tuple vs ∧
  strip (.tuple vs)=.tuple vs:=by and_intros<;>rfl
@[simp] theorem asf{r:List V}{o:Nat}{d:Nat} :
  V.cD d (.eR r o)=false ∧
  V.dz d (.eR r o)=false ∧
  V.cj d (.eR r o)=false:=by and_intros<;>rfl
@[simp] theorem asg{r:List V}{o:Nat} :
  V.cI (.eR r o)=true ∧
  V.cells (.eR r o)=[.eR r o] ∧
  V.plain (.eR r o)=false ∧
  V.iz (.eR r o)=false ∧
  V.iL (.eR r o)=false ∧
  V.lone (.eR r o)=false ∧
  gY (.eR r o)=.eR r o ∧
  strip (.eR r o)=.eR r o:=by and_intros<;>rfl
@[simp] theorem ash{i o:Nat}{d:Nat} :
  V.cD d (.bf i o)=(i==d) ∧
  V.dz d (.bf i o)=(i==d) ∧
  V.cj d (.bf i o)=(i==d) ∧
  V.cD d (.bG i o)=false ∧
  V.dz d (.bG i o)=false ∧
  V.cj d (.bG i o)=false:=by and_intros<;>rfl
@[simp] theorem asi{i o:Nat} :
  V.cI (.bf i o)=true ∧
  V.cells (.bf i o)=[.bf i o] ∧
  V.plain (.bf i o)=false ∧
  V.iz (.bf i o)=false ∧
  V.iL (.bf i o)=false ∧
  V.lone (.bf i o)=false ∧
  gY (.bf i o)=.bf i o ∧
  strip (.bf i o)=.bf i o ∧
  V.cI (.bG i o)=true ∧
  V.cells (.bG i o)=[.bG i o] ∧
  V.plain (.bG i o)=false ∧
  V.iz (.bG i o)=false ∧
  V.iL (.bG i o)=false ∧
  V.lone (.bG i o)=false ∧
  gY (.bG i o)=.bG i o ∧
  strip (.bG i o)=.bG i o ∧
  V.ko (.bG i o)=.bG i o ∧
  V.kX (.bG i o)=.bG i o:=by and_intros<;>rfl
@[simp] theorem asj{i o l:Nat}{d:Nat} :
  V.cD d (.bQ i o l)=(i==d) ∧
  V.dz d (.bQ i o l)=(i==d) ∧
  V.cj d (.bQ i o l)=(i==d):=by and_intros<;>rfl
@[simp] theorem asl{i o l:Nat} :
  V.cI (.bQ i o l)=true ∧
  V.cells (.bQ i o l)=[.bQ i o l] ∧
  V.plain (.bQ i o l)=false ∧
  V.iz (.bQ i o l)=false ∧
  V.iL (.bQ i o l)=false ∧
  V.lone (.bQ i o l)=false ∧
  gY (.bQ i o l)=.bQ i o l ∧
  strip (.bQ i o l)=.bQ i o l ∧
  V.ko (.bQ i o l)=.bQ i o l ∧
  V.kX (.bQ i o l)=.bQ i o l:=by and_intros<;>rfl
@[simp] theorem asm{f:FuncId}{c:List V}{d:Nat} :
  V.cD d (.fn f c)=false ∧
  V.dz d (.fn f c)=false ∧
  V.cj d (.fn f c)=false:=by and_intros<;>rfl
@[simp] theorem asn{f:FuncId}{c:List V} :
  V.cI (.fn f c)=true ∧
  V.cells (.fn f c)=[.fn f c] ∧
  V.plain (.fn f c)=false ∧
  V.iz (.fn f c)=false ∧
  V.iL (.fn f c)=false ∧
  V.lone (.fn f c)=false ∧
  gY (.fn f c)=.fn f c ∧
  strip (.fn f c)=.fn f c ∧
  V.ko (.fn f c)=.fn f c ∧
  V.kX (.fn f c)=.fn f c:=by and_intros<;>rfl
@[simp] theorem aso{i:Nat}{d:Nat} :
  V.cD d (.map i)=false ∧
  V.dz d (.map i)=false ∧
  V.cj d (.map i)=false:=by and_intros<;>rfl
@[simp] theorem asp{i:Nat} :
  V.cI (.map i)=true ∧
  V.cells (.map i)=[.map i] ∧
  V.plain (.map i)=false ∧
  V.iz (.map i)=false ∧
  V.iL (.map i)=false ∧
  V.lone (.map i)=false ∧
  gY (.map i)=.map i ∧
  strip (.map i)=.map i ∧
  V.ko (.map i)=.map i ∧
  V.kX (.map i)=.map i:=by and_intros<;>rfl
@[simp] theorem asq{n:Nat}{es:List (List V)}{d:Nat} :
  V.cD d (.fm n es)=false ∧
  V.dz d (.fm n es)=false ∧
  V.cj d (.fm n es)=false:=by and_intros<;>rfl
@[simp] theorem asr{n:Nat}{es:List (List V)} :
  V.cI (.fm n es)=true ∧
  V.cells (.fm n es)=[.fm n es] ∧
  V.plain (.fm n es)=false ∧
  V.iz (.fm n es)=false ∧
  V.iL (.fm n es)=false ∧
  V.lone (.fm n es)=false ∧
  gY (.fm n es)=.fm n es ∧
  strip (.fm n es)=.fm n es ∧
  V.ko (.fm n es)=.slice none n es ∧
  V.kX (.fm n es)=.slice none n es:=by and_intros<;>rfl
@[simp] theorem ass{t:Option Nat}{n:Nat}{es:List (List V)} :
  V.ko (.slice t n es)=.slice t n es ∧
  V.kX (.slice t n es)=.slice t n es:=by and_intros<;>rfl
@[simp] theorem ast{n:Nat}{d:Nat} :
  V.cD d (.dR n)=false ∧
  V.dz d (.dR n)=false ∧
  V.cj d (.dR n)=false ∧
  V.cD d (.fu n)=false ∧
  V.dz d (.fu n)=false ∧
  V.cj d (.fu n)=false:=by and_intros<;>rfl
@[simp] theorem asu{n:Nat} :
  V.cI (.dR n)=true ∧
  V.cells (.dR n)=[.dR n] ∧
  V.plain (.dR n)=false ∧
  V.iz (.dR n)=false ∧
  V.iL (.dR n)=false ∧
  V.lone (.dR n)=false ∧
  gY (.dR n)=.dR n ∧
  strip (.dR n)=.dR n ∧
  V.ko (.dR n)=.dR n ∧
  V.kX (.dR n)=.dR n ∧
  V.cI (.fu n)=true ∧
  V.cells (.fu n)=[.fu n] ∧
  V.plain (.fu n)=false ∧
  V.iz (.fu n)=false ∧
  V.iL (.fu n)=false ∧
  V.lone (.fu n)=false ∧
  gY (.fu n)=.fu n ∧
  strip (.fu n)=.fu n ∧
  V.ko (.fu n)=.fu n ∧
  V.kX (.fu n)=.fu n:=by and_intros<;>rfl
@[simp] theorem asv{t:Option Nat}{z:Nat}{es:List (List V)}:gY (.slice t z es:V)=.slice none z es:=by cases t<;>rfl
@[simp] theorem asw{t:Option Nat}{z:Nat}{es:List (List V)}:strip (.slice t z es:V)=.slice none z es:=by cases t<;>rfl
@[simp] theorem asx{t:Option Nat}{z:Nat}{es:List (List V)}:V.iz (.slice t z es:V)=true:=by cases t<;>rfl
@[simp] theorem asy{t:Option Nat}{z:Nat}{es:List (List V)}:V.iL (.slice t z es:V)=true:=by cases t<;>rfl
@[simp] theorem asz{t:Option Nat}{z:Nat}{es:List (List V)}:V.lone (.slice t z es:V)=true:=by cases t<;>rfl
@[simp] theorem asA{t:Option Nat}{z:Nat}{es:List (List V)}:V.cI (.slice t z es:V)=true:=by cases t<;>rfl
@[simp] theorem asB{t:Option Nat}{z:Nat}{es:List (List V)}:V.cells (.slice t z es:V)=[.slice t z es]:=by cases t<;>rfl
@[simp] theorem asC{v:V}:Av .jK v=v:=rfl
@[simp] theorem asD{i:Nat}{v:V}:Av (.loc i) v=v:=rfl
@[simp] theorem asE{v:V}:Av .aF v=v.kX:=rfl
def Mt(L:bw)(d:Option Nat)(reg:List (Nat×Nat))(S:St)(os:List bH)(keep:cY)(k:cz):V×List aP→Prop:=fun r =>
 r.1.lone=true∧dW L os keep k ({ S with bg:=(recv reg r.1).2++S.bg }.put d (recv reg r.1).1)
@[simp] theorem ae3{L:bw}{d:Option Nat}{reg:List (Nat×Nat)}{S:St}{os:List bH}{keep:cY}{k:cz}{r:V}{G:List aP} :
  Mt L d reg S os keep k (r,G)=(r.lone=true∧dW L os keep k ({ S with bg:=(recv reg r).2++S.bg }.put d (recv reg r).1)):=rfl
def Tq(L:bw)(d:Option Nat)(g:FuncId)(reg:List (Nat×Nat))(S:St)(os:List bH)(keep:cY)(k:cz):List V→Prop:=fun vs=>cJ (L g vs []) (Mt L d reg S os keep k)
@[simp] theorem ae4{L:bw}{d:Option Nat}{g:FuncId}{reg:List (Nat×Nat)}{S:St}{os:List bH}{keep:cY}{k:cz}{vs:List V} :
  Tq L d g reg S os keep k vs=cJ (L g vs []) (Mt L d reg S os keep k):=rfl
@[simp high] theorem asF{L:bw}{d:Option Nat}{g:FuncId}{args:List (Sh×bq)}{reg:List (Nat×Nat)}{os:List bH}{keep:cY}{k:cz}{S:St} :
  dW L (⟨d,.call true (.c (.fn g [])) args reg,none⟩::os) keep k S=cJ (mw S args) (Tq L d g reg S os keep k):=by
 rw[iD];simp only[bH.run,VO.run,St.ev];cases mw S args with
 |none=>simp[cJ]
 |some vs =>
  simp only[sU,ae4];rcases L g vs []with _ | ⟨r,G⟩
  ·simp[cJ]
  ·simp only[sU,ae3]
   cases r.lone<;>simp[cJ]
def Mu(L:bw)(d:Option Nat)(reg:List (Nat×Nat))(S:St)(os:List bH)(keep:cY)(k:cz):V×List aP→Prop:=fun r =>
 dW L os keep k ({ S with aF:=r.2,bg:=(recv reg r.1).2++S.bg }.put d (recv reg r.1).1)
@[simp] theorem asG{L:bw}{d:Option Nat}{reg:List (Nat×Nat)}{S:St}{os:List bH}{keep:cY}{k:cz}{r:V}{G:List aP} :
  Mu L d reg S os keep k (r,G)=dW L os keep k ({ S with aF:=G,bg:=(recv reg r).2++S.bg }.put d (recv reg r).1):=rfl
def Mv(L:bw)(d:Option Nat)(g:FuncId)(cap:List V)(reg:List (Nat×Nat))(S:St)(os:List bH)(keep:cY)(k:cz):List V→Prop:=fun vs=>cJ (L g (vs++cap) S.aF) (Mu L d reg S os keep k)
@[simp] theorem ae5{L:bw}{d:Option Nat}{g:FuncId}{cap:List V}{reg:List (Nat×Nat)}{S:St}{os:List bH}{keep:cY}{k:cz}{vs:List V} :
  Mv L d g cap reg S os keep k vs=cJ (L g (vs++cap) S.aF) (Mu L d reg S os keep k):=rfl
def Mw(L:bw)(d:Option Nat)(args:List (Sh×bq))(reg:List (Nat×Nat))(S:St)(os:List bH)(keep:cY)(k:cz):V→Prop:=fun f=>match f with
 |.fn g cap=>cJ (mr S args) (Mv L d g cap reg S os keep k)
 |_=>False
@[simp] theorem ae6{L:bw}{d:Option Nat}{args:List (Sh×bq)}{reg:List (Nat×Nat)}{S:St}{os:List bH}{keep:cY}{k:cz}{g:FuncId}{cap:List V} :
  Mw L d args reg S os keep k (.fn g cap)=cJ (mr S args) (Mv L d g cap reg S os keep k):=rfl
@[simp high] theorem asH{L:bw}{d:Option Nat}{f:bq}{args:List (Sh×bq)}{reg:List (Nat×Nat)}{os:List bH}{keep:cY}{k:cz}{S:St} :
  dW L (⟨d,.call false f args reg,none⟩::os) keep k S=cJ (S.ev f) (Mw L d args reg S os keep k):=by
 rw[iD];simp only[bH.run,VO.run];rcases S.ev f with _|v
 ·simp[cJ]
 ·simp only[sU]
  cases v with
  |fn g cap =>
   simp only[ae6];cases mr S args with
   |none=>simp[cJ]
   |some vs =>
    simp only[sU,ae5];rcases L g (vs++cap) S.aF with _ | ⟨r,G⟩
    ·simp[cJ]
    ·simp
  |_=>simp[cJ,Mw]
def Mx(L:bw)(d:Option Nat)(S:St)(os:List bH)(keep:cY)(k:cz):V×List aP→Prop:=fun r =>
 r.2=S.aF∧dW L os keep k (S.put d (recv [] r.1).1)
@[simp] theorem ae7{L:bw}{d:Option Nat}{S:St}{os:List bH}{keep:cY}{k:cz}{r:V}{G:List aP} :
  Mx L d S os keep k (r,G)=(G=S.aF∧dW L os keep k (S.put d (recv [] r).1)):=rfl
def My(L:bw)(d:Option Nat)(g:FuncId)(cap:List V)(S:St)(os:List bH)(keep:cY)(k:cz):List V→Prop:=fun vs=>cJ (L g (vs++cap) S.aF) (Mx L d S os keep k)
@[simp] theorem ae8{L:bw}{d:Option Nat}{g:FuncId}{cap:List V}{S:St}{os:List bH}{keep:cY}{k:cz}{vs:List V} :
  My L d g cap S os keep k vs=cJ (L g (vs++cap) S.aF) (Mx L d S os keep k):=rfl
def Mz(L:bw)(d:Option Nat)(args:List (Sh×bq))(S:St)(os:List bH)(keep:cY)(k:cz):V→Prop:=fun f=>match f with
 |.fn g cap=>cJ (mr S args) (My L d g cap S os keep k)
 |_=>False
@[simp] theorem ae9{L:bw}{d:Option Nat}{args:List (Sh×bq)}{S:St}{os:List bH}{keep:cY}{k:cz}{g:FuncId}{cap:List V} :
  Mz L d args S os keep k (.fn g cap)=cJ (mr S args) (My L d g cap S os keep k):=rfl
@[simp high] theorem asI{L:bw}{d:Option Nat}{f:bq}{args:List (Sh×bq)}{os:List bH}{keep:cY}{k:cz}{S:St} :
  dW L (⟨d,.qk f args,none⟩::os) keep k S=cJ (S.ev f) (Mz L d args S os keep k):=by
 rw[iD];simp only[bH.run,VO.run];rcases S.ev f with _|v
 ·simp[cJ]
 ·simp only[sU]
  cases v with
  |fn g cap =>
   simp only[ae9];cases mr S args with
   |none=>simp[cJ]
   |some vs =>
    simp only[sU,ae8];rcases L g (vs++cap) S.aF with _ | ⟨r,G⟩
    ·simp[cJ]
    ·simp only[sU,ae7,rd]
     by_cases h:G=S.aF
     ·simp[h]
     ·simp[h,cJ]
  |_=>simp[cJ,Mz]
def Iv(L:bw)(d:Option Nat)(id:Nat)(S:St)(os:List bH)(keep:cY)(k:cz):V×Option (List V)→Prop:=fun p=>match p.2 with
 |some cs=>dW L os keep k ({ S with aU:=(id,cs)::S.aU }.put d p.1)
 |none=>dW L os keep k (S.put d p.1)
@[simp] theorem asJ{L:bw}{d:Option Nat}{id:Nat}{S:St}{os:List bH}{keep:cY}{k:cz}{v:V}{cs:List V} :
  Iv L d id S os keep k (v,some cs)=dW L os keep k ({ S with aU:=(id,cs)::S.aU }.put d v):=rfl
@[simp] theorem asK{L:bw}{d:Option Nat}{id:Nat}{S:St}{os:List bH}{keep:cY}{k:cz}{v:V} :
  Iv L d id S os keep k (v,none)=dW L os keep k (S.put d v):=rfl
def MA(L:bw)(d:Option Nat)(id pos:Nat)(S:St)(os:List bH)(keep:cY)(k:cz):V×List aP→Prop:=fun r=>cJ (j8 id pos r.1) (Iv L d id S os keep k)
@[simp] theorem afa{L:bw}{d:Option Nat}{id pos:Nat}{S:St}{os:List bH}{keep:cY}{k:cz}{r:V}{G:List aP} :
  MA L d id pos S os keep k (r,G)=cJ (j8 id pos r) (Iv L d id S os keep k):=rfl
def Ts(L:bw)(d:Option Nat)(g:FuncId)(id pos:Nat)(S:St)(os:List bH)(keep:cY)(k:cz):List V→Prop:=fun vs=>cJ (L g vs []) (MA L d id pos S os keep k)
@[simp] theorem afb{L:bw}{d:Option Nat}{g:FuncId}{id pos:Nat}{S:St}{os:List bH}{keep:cY}{k:cz}{vs:List V} :
  Ts L d g id pos S os keep k vs=cJ (L g vs []) (MA L d id pos S os keep k):=rfl
@[simp high] theorem asL{L:bw}{d:Option Nat}{g:FuncId}{args:List (Sh×Sh×bq)}{ids:List Nat}{id pos:Nat}{os:List bH}{keep:cY}{k:cz}{S:St} :
  dW L (⟨d,.own (.c (.fn g [])) args ids id pos,none⟩::os) keep k S=cJ (kY S ids args) (Ts L d g id pos S os keep k):=by
 rw[iD];simp only[bH.run,VO.run,St.ev];cases kY S ids args with
 |none=>simp[cJ]
 |some vs =>
  simp only[sU,afb];rcases L g vs []with _ | ⟨r,G⟩
  ·simp[cJ]
  ·simp only[sU,afa]
   rcases j8 id pos r with _ | ⟨v,_|cs⟩
   ·simp[cJ]
   ·simp
   ·simp
def C4(L:bw)(d:Option Nat)(id:Nat)(S:St)(os:List bH)(keep:cY)(k:cz):V×Option (List V)→Prop:=fun p=>match p with
 |(.bQ i n ln,some cs)=>cJ (bif i==id&&Nat.blt 0 cs.length&&Nat.blt 0 ln&&cs.all V.sc then some ({ S with aF:=S.aF++[aP.cells cs] }.put d (.dh S.aF.length n ln)) else none) (dW L os keep k)
 |(.dR n,none)=>dW L os keep k ({ S with aF:=S.aF++[aP.cells []] }.put d (.dh S.aF.length n 0))
 |_=>False
@[simp] theorem asM{L:bw}{d:Option Nat}{id i n ln:Nat}{S:St}{os:List bH}{keep:cY}{k:cz}{cs:List V} :
  C4 L d id S os keep k (.bQ i n ln,some cs)=cJ (bif i==id&&Nat.blt 0 cs.length&&Nat.blt 0 ln&&cs.all V.sc then some ({ S with aF:=S.aF++[aP.cells cs] }.put d (.dh S.aF.length n ln)) else none) (dW L os keep k):=rfl
@[simp] theorem asN{L:bw}{d:Option Nat}{id n:Nat}{S:St}{os:List bH}{keep:cY}{k:cz} :
  C4 L d id S os keep k (.dR n,none)=dW L os keep k ({ S with aF:=S.aF++[aP.cells []] }.put d (.dh S.aF.length n 0)):=rfl
def MB(L:bw)(d:Option Nat)(id:Nat)(S:St)(os:List bH)(keep:cY)(k:cz):V×List aP→Prop:=fun r=>cJ (j8 id 0 r.1) (C4 L d id S os keep k)
@[simp] theorem afc{L:bw}{d:Option Nat}{id:Nat}{S:St}{os:List bH}{keep:cY}{k:cz}{r:V}{G:List aP} :
  MB L d id S os keep k (r,G)=cJ (j8 id 0 r) (C4 L d id S os keep k):=rfl
def Tt(L:bw)(d:Option Nat)(g:FuncId)(id:Nat)(S:St)(os:List bH)(keep:cY)(k:cz):List V→Prop:=fun vs=>cJ (L g vs []) (MB L d id S os keep k)
@[simp] theorem afd{L:bw}{d:Option Nat}{g:FuncId}{id:Nat}{S:St}{os:List bH}{keep:cY}{k:cz}{vs:List V} :
  Tt L d g id S os keep k vs=cJ (L g vs []) (MB L d id S os keep k):=rfl
@[simp high] theorem asO{L:bw}{d:Option Nat}{g:FuncId}{args:List (Sh×bq)}{id:Nat}{os:List bH}{keep:cY}{k:cz}{S:St} :
  dW L (⟨d,.qm (.c (.fn g [])) args id,none⟩::os) keep k S=cJ (mw S args) (Tt L d g id S os keep k):=by
 rw[iD];simp only[bH.run,VO.run,St.ev];cases mw S args with
 |none=>simp[cJ]
 |some vs =>
  simp only[sU,afd];rcases L g vs []with _ | ⟨r,G⟩
  ·simp[cJ]
  ·simp only[sU,afc]
   rcases j8 id 0 r with _ | ⟨v,o⟩
   ·simp[cJ]
   ·rcases o with _|cs
    ·cases v<;>simp[cJ,C4]
    ·cases v<;>simp[cJ,C4]
     all_goals (split<;>simp_all)
def kc(w:Bool)(o:Option V)(A B:Prop):Prop:=match o with
 |some (.bool b)=>bif b==w then A else B
 |some .undef=>B
 |_=>False
@[simp] theorem asP{b:Bool}{A B:Prop}:kc true (some (.bool b)) A B=tY (some (.bool b)) A B:=by cases b<;>simp[kc]
@[simp] theorem asQ{b:Bool}{A B:Prop}:kc false (some (.bool b)) A B=tY (some (.bool b)) B A:=by cases b<;>simp[kc]
@[simp] theorem asR{w:Bool}{A B:Prop}:kc w (some .undef) A B=B:=rfl
@[simp] theorem asS{w b:Bool}{x y:V}{A B:Prop}:kc w (some (kO b x y)) A B=tY (some (.bool b)) (kc w (some x) A B) (kc w (some y) A B):=by cases b<;>simp
@[simp high] theorem asT{L:bw}{d:Option Nat}{al:Bool}{f:bq}{args:List (Sh×bq)}{reg:List (Nat×Nat)}{g:Nat}{w:Bool}{os:List bH}{keep:cY}{k:cz}{S:St} :
  dW L (⟨d,.call al f args reg,some (g,w)⟩::os) keep k S=kc w (look g S.env) (dW L (⟨d,.call al f args reg,none⟩::os) keep k S) (dW L os keep k (S.put d .undef)):=by
 rw[iD,iD];simp only[bH.run];rcases look g S.env with _|v
 ·simp[cJ,kc]
 ·cases v with
  |bool b=>simp only[kc];cases b==w<;>simp
  |undef=>simp[kc]
  |_=>simp[cJ,kc]
@[simp high] theorem asU{L:bw}{d:Option Nat}{f:bq}{args:List (Sh×bq)}{g:Nat}{w:Bool}{os:List bH}{keep:cY}{k:cz}{S:St} :
  dW L (⟨d,.qk f args,some (g,w)⟩::os) keep k S=kc w (look g S.env) (dW L (⟨d,.qk f args,none⟩::os) keep k S) (dW L os keep k (S.put d .undef)):=by
 rw[iD,iD];simp only[bH.run];rcases look g S.env with _|v
 ·simp[cJ,kc]
 ·cases v with
  |bool b=>simp only[kc];cases b==w<;>simp
  |undef=>simp[kc]
  |_=>simp[cJ,kc]
theorem afe{reg:List (Nat×Nat)}{cs:List V}:recv reg (.agg cs)=(.agg (cM reg 0 cs).1,(cM reg 0 cs).2):=rfl
theorem aff{reg:List (Nat×Nat)}{cs:List V}:recv reg (.tuple cs)=(.tuple (cM reg 0 cs).1,(cM reg 0 cs).2):=rfl
attribute [simp] afe aff
@[simp] theorem asV{reg:List (Nat×Nat)}{i:Nat} :
  cM reg i []=([],[]) ∧
  recv reg (.map i)=(strip (.map i),[]):=by and_intros<;>rfl
@[simp] theorem afg{i:Nat}:∀{vs:List V},cM [] i vs=(vs.map strip,[])
 |[]=>rfl
 |v::vs=>by
  simp only[cM,afg (i:=i+1) (vs:=vs)];cases v with
  |slice t n es=>cases t<;>rfl
  |_=>rfl
def MC(o:Option Nat)(n:Nat)(es:List (List V))(r:List V×List (Nat×Nat)):List V×List (Nat×Nat):=match o with
 |some f=>(.slice (some f) n es::r.1,(f,es.length)::r.2)
 |none=>(.slice none n es::r.1,r.2)
@[simp] theorem asW{f n:Nat}{es:List (List V)}{r:List V×List (Nat×Nat)}:MC (some f) n es r=(.slice (some f) n es::r.1,(f,es.length)::r.2):=rfl
@[simp] theorem asX{n:Nat}{es:List (List V)}{r:List V×List (Nat×Nat)}:MC none n es r=(.slice none n es::r.1,r.2):=rfl
@[simp] theorem asY{reg:List (Nat×Nat)}{i n t:Nat}{es:List (List V)}{vs:List V}:cM reg i (.slice (some t) n es::vs)=MC (look i reg) n es (cM reg (i+1) vs):=by
 simp only[cM];cases look i reg<;>rfl
@[simp] theorem asZ{reg:List (Nat×Nat)}{j:Nat}{us:List V}{k:IntKind}{n:Int}:cM reg j ((.int k n)::us)=(strip (.int k n)::(cM reg (j+1) us).1,(cM reg (j+1) us).2):=rfl
@[simp] theorem as0{reg:List (Nat×Nat)}{k:IntKind}{n:Int}:recv reg (.int k n)=(strip (.int k n),[]):=rfl
@[simp] theorem as1{reg:List (Nat×Nat)}{j:Nat}{us:List V}{b:Bool}:cM reg j ((.bool b)::us)=(strip (.bool b)::(cM reg (j+1) us).1,(cM reg (j+1) us).2):=rfl
@[simp] theorem as2{reg:List (Nat×Nat)}{b:Bool}:recv reg (.bool b)=(strip (.bool b),[]):=rfl
@[simp] theorem as3{reg:List (Nat×Nat)}{j:Nat}{us:List V}{s:List UInt8}:cM reg j ((.str s)::us)=(strip (.str s)::(cM reg (j+1) us).1,(cM reg (j+1) us).2):=rfl
@[simp] theorem as4{reg:List (Nat×Nat)}{s:List UInt8}:recv reg (.str s)=(strip (.str s),[]):=rfl
@[simp] theorem as5{reg:List (Nat×Nat)}{j:Nat}{us:List V} :
  cM reg j (.bV::us)=(strip .bV::(cM reg (j+1) us).1,(cM reg (j+1) us).2) ∧
  cM reg j (.fY::us)=(strip .fY::(cM reg (j+1) us).1,(cM reg (j+1) us).2) ∧
  cM reg j (.fZ::us)=(strip .fZ::(cM reg (j+1) us).1,(cM reg (j+1) us).2) ∧
  cM reg j (.gd::us)=(strip .gd::(cM reg (j+1) us).1,(cM reg (j+1) us).2) ∧
  cM reg j (.undef::us)=(strip .undef::(cM reg (j+1) us).1,(cM reg (j+1) us).2):=by and_intros<;>rfl
@[simp] theorem as6{reg:List (Nat×Nat)} :
  recv reg .bV=(strip .bV,[]) ∧
  recv reg .fY=(strip .fY,[]) ∧
  recv reg .fZ=(strip .fZ,[]) ∧
  recv reg .gd=(strip .gd,[]) ∧
  recv reg .undef=(strip .undef,[]):=by and_intros<;>rfl
@[simp] theorem as7{reg:List (Nat×Nat)}{j:Nat}{us:List V}{z:Nat}{es:List (List V)}:cM reg j ((.slice none z es)::us)=(strip (.slice none z es)::(cM reg (j+1) us).1,(cM reg (j+1) us).2):=rfl
@[simp] theorem as8{reg:List (Nat×Nat)}{z:Nat}{es:List (List V)}:recv reg (.slice none z es)=(strip (.slice none z es),[]):=rfl
@[simp] theorem as9{reg:List (Nat×Nat)}{j:Nat}{us:List V}{cs:List V}:cM reg j ((.agg cs)::us)=(strip (.agg cs)::(cM reg (j+1) us).1,(cM reg (j+1) us).2):=rfl
@[simp] theorem ata{reg:List (Nat×Nat)}{j:Nat}{us:List V}{vs:List V}:cM reg j ((.tuple vs)::us)=(strip (.tuple vs)::(cM reg (j+1) us).1,(cM reg (j+1) us).2):=rfl
@[simp] theorem atb{reg:List (Nat×Nat)}{j:Nat}{us:List V}{r:List V}{o:Nat}:cM reg j ((.eR r o)::us)=(strip (.eR r o)::(cM reg (j+1) us).1,(cM reg (j+1) us).2):=rfl
@[simp] theorem atc{reg:List (Nat×Nat)}{r:List V}{o:Nat}:recv reg (.eR r o)=(strip (.eR r o),[]):=rfl
@[simp] theorem atd{reg:List (Nat×Nat)}{j:Nat}{us:List V}{i o:Nat} :
  cM reg j ((.bf i o)::us)=(strip (.bf i o)::(cM reg (j+1) us).1,(cM reg (j+1) us).2) ∧
  cM reg j ((.bG i o)::us)=(strip (.bG i o)::(cM reg (j+1) us).1,(cM reg (j+1) us).2):=by and_intros<;>rfl
@[simp] theorem ate{reg:List (Nat×Nat)}{i o:Nat} :
  recv reg (.bf i o)=(strip (.bf i o),[]) ∧
  recv reg (.bG i o)=(strip (.bG i o),[]):=by and_intros<;>rfl
@[simp] theorem atf{reg:List (Nat×Nat)}{j:Nat}{us:List V}{i o l:Nat}:cM reg j ((.bQ i o l)::us)=(strip (.bQ i o l)::(cM reg (j+1) us).1,(cM reg (j+1) us).2):=rfl
@[simp] theorem atg{reg:List (Nat×Nat)}{i o l:Nat}:recv reg (.bQ i o l)=(strip (.bQ i o l),[]):=rfl
@[simp] theorem ath{reg:List (Nat×Nat)}{j:Nat}{us:List V}{f:FuncId}{c:List V}:cM reg j ((.fn f c)::us)=(strip (.fn f c)::(cM reg (j+1) us).1,(cM reg (j+1) us).2):=rfl
@[simp] theorem ati{reg:List (Nat×Nat)}{f:FuncId}{c:List V}:recv reg (.fn f c)=(strip (.fn f c),[]):=rfl
@[simp] theorem atj{reg:List (Nat×Nat)}{j:Nat}{us:List V}{i:Nat}:cM reg j ((.map i)::us)=(strip (.map i)::(cM reg (j+1) us).1,(cM reg (j+1) us).2):=rfl
@[simp] theorem atk{reg:List (Nat×Nat)}{n t:Nat}{es:List (List V)}:recv reg (.slice (some t) n es)=match cM reg 0 [.slice (some t) n es] with
  |([u],ts)=>(u,ts)
  |_=>(.undef,[]):=rfl
theorem Iw{α:Type}(g:α→Int):∀l:List α,kr [none] (l.map fun j=>[V.int .i64 (g j)])=some (l.map fun j=>[V.int .i64 (g j)])
 |[]=>rfl
 |a::l=>by simp[kr,mn,el,Iw g l]
theorem Fe{sz:Nat}:∀(cs:List V) (off n:Nat),sz=1→off+n≤cs.length→chunks sz cs off n=((cs.drop off).take n).map fun v=>[v]
 |cs,off,0,_,_=>by simp[chunks]
 |cs,off,n+1,h,hn=>by
  subst h;rw[chunks,Fe cs (off+1) n rfl (by omega),List.drop_eq_getElem_cons (show off<cs.length by omega)]
  simp only[List.take_succ_cons,List.take_zero,List.map_cons]
@[simp] theorem atl{n:Nat}{f:Nat→Int}:kr [none] (chunks 1 (ek n f) 0 n)=some ((List.range n).map fun j=>[V.int .i64 (f j)]):=by
 rw[Fe _ _ _ rfl (by simp)]
 rw[List.drop_zero,ae1,ek,List.map_map];exact Iw f _
theorem Tu{n:Nat}:List.replicate n (V.int .i64 0)=ek n fun _=>0:=by
 rw[←To,rep]
@[simp] theorem atm{n:Nat}:(List.replicate n [V.int .i64 0]).flatten=ek n fun _=>0:=by
 rw[←To,rep];simp
@[simp] theorem atn{x y:Nat} :
  V.iT x y .undef=.undef ∧
  V.iT x y .bV=.bV ∧
  V.iT x y .fY=.fY ∧
  V.iT x y .fZ=.fZ ∧
  V.iT x y .gd=.gd:=by and_intros<;>rfl
@[simp] theorem ato{x:Nat} :
  V.forget x .undef=.undef ∧
  V.forget x .bV=.bV ∧
  V.forget x .fY=.fY ∧
  V.forget x .fZ=.fZ ∧
  V.forget x .gd=.gd:=by and_intros<;>rfl
@[simp] theorem atp{k:IntKind}{n:Int}{x y:Nat}:V.iT x y (.int k n)=.int k n:=rfl
@[simp] theorem atq{k:IntKind}{n:Int}{x:Nat}:V.forget x (.int k n)=.int k n:=rfl
@[simp] theorem atr{b:Bool}{x y:Nat}:V.iT x y (.bool b)=.bool b:=rfl
@[simp] theorem ats{b:Bool}{x:Nat}:V.forget x (.bool b)=.bool b:=rfl
@[simp] theorem att{s:List UInt8}{x y:Nat}:V.iT x y (.str s)=.str s:=rfl
@[simp] theorem atu{s:List UInt8}{x:Nat}:V.forget x (.str s)=.str s:=rfl
@[simp] theorem atv{z:Nat}{es:List (List V)}{x y:Nat}:V.iT x y (.slice none z es)=.slice none z es:=rfl
@[simp] theorem atw{z:Nat}{es:List (List V)}{x:Nat}:V.forget x (.slice none z es)=.slice none z es:=rfl
@[simp] theorem atx{t z:Nat}{es:List (List V)}{x y:Nat}:V.iT x y (.slice (some t) z es:V)=.slice (some t) z es:=rfl
@[simp] theorem aty{t z:Nat}{es:List (List V)}{x:Nat}:V.forget x (.slice (some t) z es:V)=bif t==x then .slice none z es else .slice (some t) z es:=rfl
@[simp] theorem atz{cs:List V}{x y:Nat}:V.iT x y (.agg cs)=.agg cs:=rfl
@[simp] theorem atA{cs:List V}{x:Nat}:V.forget x (.agg cs)=.agg cs:=rfl
@[simp] theorem atB{vs:List V}{x y:Nat}:V.iT x y (.tuple vs)=.tuple vs:=rfl
@[simp] theorem atC{vs:List V}{x:Nat}:V.forget x (.tuple vs)=.tuple vs:=rfl
@[simp] theorem atD{r:List V}{o:Nat}{x y:Nat}:V.iT x y (.eR r o)=.eR r o:=rfl
@[simp] theorem atE{r:List V}{o:Nat}{x:Nat}:V.forget x (.eR r o)=.eR r o:=rfl
@[simp] theorem atF{i o:Nat}{x y:Nat} :
  V.iT x y (.bf i o)=.bf i o ∧
  V.iT x y (.bG i o)=.bG i o:=by and_intros<;>rfl
@[simp] theorem atG{i o:Nat}{x:Nat} :
  V.forget x (.bf i o)=.bf i o ∧
  V.forget x (.bG i o)=.bG i o:=by and_intros<;>rfl
@[simp] theorem atH{i o l:Nat}{x y:Nat}:V.iT x y (.bQ i o l)=bif i==x then .bQ y o l else .bQ i o l:=rfl
@[simp] theorem atI{i o l:Nat}{x:Nat}:V.forget x (.bQ i o l)=.bQ i o l:=rfl
@[simp] theorem atJ{f:FuncId}{c:List V}{x y:Nat}:V.iT x y (.fn f c)=.fn f c:=rfl
@[simp] theorem atK{f:FuncId}{c:List V}{x:Nat}:V.forget x (.fn f c)=.fn f c:=rfl
@[simp] theorem atL{i:Nat}{x y:Nat}:V.iT x y (.map i)=.map i:=rfl
@[simp] theorem atM{i:Nat}{x:Nat}:V.forget x (.map i)=.map i:=rfl
@[simp] theorem sn0{i s n:Nat}{d:Nat} :
  V.cD d (.dh i s n)=false ∧
  V.dz d (.dh i s n)=false ∧
  V.cj d (.dh i s n)=false:=by and_intros<;>rfl
@[simp] theorem sn1{i s n:Nat} :
  V.cI (.dh i s n)=true ∧
  V.plain (.dh i s n)=false ∧
  V.iz (.dh i s n)=false ∧
  V.iL (.dh i s n)=false ∧
  V.lone (.dh i s n)=false ∧
  V.cells (.dh i s n)=[.dh i s n] ∧
  gY (.dh i s n)=.dh i s n ∧
  strip (.dh i s n)=.dh i s n ∧
  V.ko (.dh i s n)=.dh i s n ∧
  V.kX (.dh i s n)=.dh i s n:=by and_intros<;>rfl
@[simp] theorem sn2{i s n:Nat}{x y:Nat}:V.iT x y (.dh i s n)=.dh i s n:=rfl
@[simp] theorem sn3{i s n:Nat}{x:Nat}:V.forget x (.dh i s n)=.dh i s n:=rfl
@[simp] theorem sn4{reg:List (Nat×Nat)}{j:Nat}{us:List V}{i s n:Nat}:cM reg j ((.dh i s n)::us)=(strip (.dh i s n)::(cM reg (j+1) us).1,(cM reg (j+1) us).2):=rfl
@[simp] theorem sn5{reg:List (Nat×Nat)}{i s n:Nat}:recv reg (.dh i s n)=(strip (.dh i s n),[]):=rfl
@[simp] theorem sn6{i s o n:Nat}{d:Nat} :
  V.cD d (.fh i s o n)=(i==d) ∧
  V.dz d (.fh i s o n)=(i==d) ∧
  V.cj d (.fh i s o n)=(i==d):=by and_intros<;>rfl
@[simp] theorem sn7{i s o n:Nat} :
  V.cI (.fh i s o n)=true ∧
  V.plain (.fh i s o n)=false ∧
  V.iz (.fh i s o n)=false ∧
  V.iL (.fh i s o n)=false ∧
  V.lone (.fh i s o n)=false ∧
  V.cells (.fh i s o n)=[.fh i s o n] ∧
  gY (.fh i s o n)=.fh i s o n ∧
  strip (.fh i s o n)=.fh i s o n ∧
  V.ko (.fh i s o n)=.fh i s o n ∧
  V.kX (.fh i s o n)=.fh i s o n:=by and_intros<;>rfl
@[simp] theorem sn8{i s o n:Nat}{x y:Nat}:V.iT x y (.fh i s o n)=.fh i s o n:=rfl
@[simp] theorem sn9{i s o n:Nat}{x:Nat}:V.forget x (.fh i s o n)=.fh i s o n:=rfl
@[simp] theorem atY{reg:List (Nat×Nat)}{j:Nat}{us:List V}{i s o n:Nat}:cM reg j ((.fh i s o n)::us)=(strip (.fh i s o n)::(cM reg (j+1) us).1,(cM reg (j+1) us).2):=rfl
@[simp] theorem atZ{reg:List (Nat×Nat)}{i s o n:Nat}:recv reg (.fh i s o n)=(strip (.fh i s o n),[]):=rfl
def dM(l:List Int):List V:=l.map fun n=>.int .i64 n
@[simp] theorem afh{l:List Int}:(dM l).length=l.length:=by simp[dM]
@[simp] theorem at0{l:List Int}{i:Nat}{v:Int}:(dM l).set i (.int .i64 v)=dM (l.set i v):=by simp[dM]
theorem lx{l:List Int}{i:Nat}(h:i<l.length):(dM l)[i]?=some (.int .i64 (nth l i)):=by simp[dM,dj h]
@[simp] theorem afi{l:List Int}{d:Nat}:(dM l).all (fun v => !v.cD d)=true:=by simp[dM,V.cD]
@[simp] theorem Tv{l:List Int}:(l.map fun n=>[V.int .i64 n]).flatten=dM l:=by
 induction l with
 |nil=>rfl
 |cons a l ih=>simp only[List.map_cons,List.flatten_cons,ih];rfl
@[simp] theorem MD{l:List Int}{n:Nat}(h:n=l.length):kr [none] (chunks 1 (dM l) 0 n)=some (l.map fun n=>[V.int .i64 n]):=by
 subst h;rw[Fe _ _ _ rfl (by simp)]
 rw[List.drop_zero,List.take_of_length_le (by simp),dM,List.map_map]
 exact Iw (fun n=>n) l
@[simp] theorem at1{l m:List Int}:dM l++dM m=dM (l++m):=by simp[dM]
@[simp] theorem at2{l:List Int}{a:Int}:dM l++[V.int .i64 a]=dM (l++[a]):=by simp[dM]
def kp{α:Type}(o:Option α)(s:Nat)(r:List (Nat×α)):List (Nat×α):=match o with
 |some v=>(s,v)::r
 |none=>r
@[simp] theorem at3{α:Type}{v:α}{s:Nat}{r:List (Nat×α)}:kp (some v) s r=(s,v)::r:=rfl
@[simp] theorem at4{α:Type}{s:Nat}{r:List (Nat×α)}:kp none s r=r:=rfl
@[simp low] theorem at5{α:Type}{env:List (Nat×α)}{s:Nat}{l:List Nat}:tD env (s::l)=kp (look s env) s (tD env l):=by
 simp only[tD];cases look s env<;>rfl
@[simp low] theorem at6{α:Type}{env:List (Nat×α)}:tD env []=[]:=rfl
attribute [simp] Au lX St.take St.vN nc bH.run VO.run St.ev oT St.put V.bin Ee St.keep uM uL yQ yP mL oR sG el mn
 jx.fits St.nF loadAt St.fits jg mw oy mr yN V.un Hn St.kW qn tB ox Ax St.mJ gG.run St.rows St.sH St.rj St.share St.yK St.yL St.yM St.Ca uK St.wW
@[simp] theorem afj{a b:Nat}:Nat.ble a b=decide (a≤b):=by
 by_cases h:a≤b
 ·simp[h,Nat.ble_eq]
 ·simp only[h,decide_false]
  exact Bool.eq_false_iff.2 (fun e=>h (Nat.le_of_ble_eq_true e))
@[simp] theorem at7{a b:Nat}:Nat.blt a b=decide (a<b):=by
 rw[Nat.blt,afj];rfl
attribute [simp] List.getElem?_cons_zero List.getElem?_cons_succ
theorem C5{G r:List aP}{a:aP}:(G++a::r)[G.length]?=some a:=by simp
theorem Tw{G r:List aP}{a b:aP}:(G++a::b::r)[G.length+1]?=some b:=by
 rw[List.getElem?_append_right (by omega)];simp
def vj(S:St)(ids:List Nat)(rs sh:Sh):Option V→Option V
 |some (.bQ id s n)=>S.Aw ids rs id s n
 |some (.fh id s off n)=>S.yO ids rs id s off n
 |some v=>oy sh v
 |none=>none
@[simp] theorem at8{S:St}{ids:List Nat}:kY S ids []=some []:=rfl
@[simp] theorem at9{S:St}{ids:List Nat}{rs sh:Sh}{x:bq}{xs:List (Sh×Sh×bq)}:kY S ids ((rs,sh,x)::xs)=match vj S ids rs sh (S.ev x),kY S ids xs with
  |some u,some us=>some (u::us)
  |_,_=>none:=by
 simp only[kY];rcases S.ev x with _|v
 ·rfl
 ·cases v<;>rfl
@[simp] theorem aua{S:St}{ids:List Nat}{rs sh:Sh}{id s n:Nat}:vj S ids rs sh (some (.bQ id s n))=bif ids.contains id then (match S.sH rs (.bQ id s n) with|some es=>some (V.slice none rs.length es)|none=>none) else none:=rfl
@[simp] theorem aub{S:St}{ids:List Nat}{rs sh:Sh}{f:FuncId}{c:List V}:vj S ids rs sh (some (.fn f c))=oy sh (.fn f c):=rfl
@[simp] theorem auc{S:St}{ids:List Nat}{rs sh:Sh}{id s off n:Nat}:vj S ids rs sh (some (.fh id s off n))=bif ids.contains id then (match look id S.aU with
  |some cs=>bif (s==rs.length)&&Nat.blt 0 rs.length&&Nat.ble (off*rs.length+n*rs.length) cs.length then (match kr rs (chunks rs.length cs (off*rs.length) n) with|some es=>some (V.slice none rs.length es)|none=>none) else none
  |none=>none) else none:=rfl
@[simp] theorem aud{S:St}{ids:List Nat}{rs sh:Sh}{k:IntKind}{n:Int}:vj S ids rs sh (some (.int k n))=oy sh (.int k n):=rfl
@[simp] theorem aue{S:St}{ids:List Nat}{rs sh:Sh}{b:Bool}:vj S ids rs sh (some (.bool b))=oy sh (.bool b):=rfl
@[simp] theorem auf{S:St}{ids:List Nat}{rs sh:Sh}{s:List UInt8}:vj S ids rs sh (some (.str s))=oy sh (.str s):=rfl
@[simp] theorem aug{S:St}{ids:List Nat}{rs sh:Sh}:vj S ids rs sh (some .bV)=oy sh .bV:=rfl
@[simp] theorem auh{S:St}{ids:List Nat}{rs sh:Sh}{t:Option Nat}{n:Nat}{es:List (List V)}:vj S ids rs sh (some (.slice t n es))=oy sh (.slice t n es):=rfl
@[simp] theorem aui{S:St}{ids:List Nat}{rs sh:Sh}{n:Nat}:vj S ids rs sh (some (.dR n))=oy sh (.dR n):=rfl
@[simp] theorem auj{S:St}{ids:List Nat}{rs sh:Sh}{cs:List V}:vj S ids rs sh (some (.agg cs))=oy sh (.agg cs):=rfl
def ME(L:bw)(d:Option Nat)(S:St)(os:List bH)(keep:cY)(k:cz):V×List aP→Prop:=fun r=>r.1.oS=true∧dW L os keep k (S.put d r.1)
@[simp] theorem afk{L:bw}{d:Option Nat}{S:St}{os:List bH}{keep:cY}{k:cz}{r:V}{G:List aP}:ME L d S os keep k (r,G)=(r.oS=true∧dW L os keep k (S.put d r)):=rfl
def Tx(L:bw)(d:Option Nat)(g:FuncId)(S:St)(os:List bH)(keep:cY)(k:cz):List V→Prop:=fun vs=>cJ (L g vs []) (ME L d S os keep k)
@[simp] theorem afl{L:bw}{d:Option Nat}{g:FuncId}{S:St}{os:List bH}{keep:cY}{k:cz}{vs:List V}:Tx L d g S os keep k vs=cJ (L g vs []) (ME L d S os keep k):=rfl
@[simp high] theorem auk{L:bw}{d:Option Nat}{g:FuncId}{args:List (Sh×Sh×bq)}{ids:List Nat}{os:List bH}{keep:cY}{k:cz}{S:St} :
  dW L (⟨d,.ql (.c (.fn g [])) args ids,none⟩::os) keep k S=cJ (kY S ids args) (Tx L d g S os keep k):=by
 rw[iD];simp only[bH.run,VO.run,St.ev];cases kY S ids args with
 |none=>simp[cJ]
 |some vs =>
  simp only[sU,afl];rcases L g vs []with _ | ⟨r,G⟩
  ·simp[cJ]
  ·simp only[sU,afk]
   cases r.oS<;>simp[cJ]
@[simp high] theorem aul{L:bw}{d:Option Nat}{f:bq}{args:List (Sh×Sh×bq)}{ids:List Nat}{g:Nat}{w:Bool}{os:List bH}{keep:cY}{k:cz}{S:St} :
  dW L (⟨d,.ql f args ids,some (g,w)⟩::os) keep k S=kc w (look g S.env) (dW L (⟨d,.ql f args ids,none⟩::os) keep k S) (dW L os keep k (S.put d .undef)):=by
 rw[iD,iD];simp only[bH.run];rcases look g S.env with _|v
 ·simp[cJ,kc]
 ·cases v with
  |bool b=>simp only[kc];cases b==w<;>simp
  |undef=>simp[kc]
  |_=>simp[cJ,kc]
@[simp] theorem aum{k:IntKind}{n:Int}:V.oS (.int k n)=true:=rfl
@[simp] theorem aun{b:Bool}:V.oS (.bool b)=true:=rfl
@[simp] theorem auo{s:List UInt8}:V.oS (.str s)=true:=rfl
attribute [simp] V.oS V.sc
end Go.Vm
