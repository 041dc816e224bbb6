/- The value machine, 22: weakest preconditions of the evaluator. -/
import Derived.Test.YtcelmhaoipbdiaaGreatDoorVmI
namespace Go.Vm
set_option linter.all false
def cL{α:Type}(o:Option α)(P:α→Prop):Prop:=∃a,o=some a∧P a
@[congr] theorem aq2{α:Type}{o o':Option α}{P:α→Prop}(h:o=o'):cL o P=cL o' P:=by rw[h]
@[simp] theorem tq{α:Type}{a:α}{P:α→Prop}:cL (some a) P=P a:=by simp[cL]
theorem aq3{α:Type}{o:Option α}{a:α}{P:α→Prop}(h:o=some a)(hp:P a):cL o P:=⟨a,h,hp⟩
def uB(o:Option V)(A B:Prop):Prop:=∃t,o=some (.bool t)∧(bif t then A else B)
@[congr] theorem aq4{o o':Option V}{A B:Prop}(h:o=o'):uB o A B=uB o' A B:=by rw[h]
@[simp] theorem aq5{A B:Prop}:uB (some (.bool true)) A B=A:=by simp[uB]
@[simp] theorem aq6{A B:Prop}:uB (some (.bool false)) A B=B:=by simp[uB]
theorem bS{p:Prop}{dp:Decidable p}{A B:Prop}(ha:p→A)(hb:¬p→B):uB (some (.bool (decide p))) A B:=by
 by_cases h:p
 ·simpa [h] using ha h
 ·simpa [h] using hb h
theorem gT{t:Bool}{A B:Prop}(ha:t=true→A)(hb:t=false→B):uB (some (.bool t)) A B:=by
 cases t
 ·simpa using hb rfl
 ·simpa using ha rfl
abbrev cB:=oO→St→Prop
def go(L:br)(c:VC)(S:St)(k:cB):Prop:=∃n e T,VC.run L n c S=some (e,T)∧k e T
@[congr] theorem go_congr{L:br}{c:VC}{S S':St}{k:cB}(h:S=S'):go L c S k=go L c S' k:=by rw[h]
theorem wZ{L:br}{n m:Nat}(h:n≤m){c:VC}{S:St}{x:oO×St}(hr:VC.run L n c S=some x):VC.run L m c S=some x :=
 Ah (fun _ _ _ _ h=>h) h hr
theorem go.mono{L:br}{c:VC}{S:St}{k k':cB}(h:go L c S k)(hk:∀e T,k e T→k' e T):go L c S k':=by
 obtain⟨n,e,T,h1,h2⟩:=h;exact⟨n,e,T,h1,hk _ _ h2⟩
def sq(L:br)(b:VC)(k:cB):cB:=fun e T=>match e with
 |.normal=>go L b T k
 |.exit i=>k (.exit i) T
 |.ret=>k .ret T
@[simp] theorem aq7{L:br}{b:VC}{k:cB}{T:St}:sq L b k .normal T=go L b T k:=rfl
@[simp] theorem aq8{L:br}{b:VC}{k:cB}{i:Nat}{T:St}:sq L b k (.exit i) T=k (.exit i) T:=rfl
@[simp] theorem aq9{L:br}{b:VC}{k:cB}{T:St}:sq L b k .ret T=k .ret T:=rfl
def bk(id:Nat)(k:cB):cB:=fun e T=>match e with
 |.normal=>k .normal T
 |.exit i=>bif i==id then k .normal T else k (.exit i) T
 |.ret=>k .ret T
@[simp] theorem ara{id:Nat}{k:cB}{T:St}:bk id k .normal T=k .normal T:=rfl
def Gp(b:Bool)(k:cB)(i:Nat)(T:St):Prop:=bif b then k .normal T else k (.exit i) T
@[congr] theorem arb{b b':Bool}{k:cB}{i:Nat}{T:St}(h:b=b'):Gp b k i T=Gp b' k i T:=by rw[h]
@[simp] theorem arc{k:cB}{i:Nat}{T:St}:Gp true k i T=k .normal T:=rfl
@[simp] theorem ard{k:cB}{i:Nat}{T:St}:Gp false k i T=k (.exit i) T:=rfl
@[simp] theorem are{id:Nat}{k:cB}{i:Nat}{T:St}:bk id k (.exit i) T=Gp (i==id) k i T:=rfl
@[simp] theorem arf{id:Nat}{k:cB}{T:St}:bk id k .ret T=k .ret T:=rfl
def dU(L:br)(os:List bA)(keep:cX)(k:cB):St→Prop:=fun S=>∃T,gQ L os S=some T∧k .normal (T.keep keep)
@[congr] theorem arh{L:br}{os:List bA}{keep:cX}{k:cB}{S S':St}(h:S=S'):dU L os keep k S=dU L os keep k S':=by rw[h]
@[simp] theorem ari{L:br}{keep:cX}{k:cB}{S:St}:dU L [] keep k S=k .normal (S.keep keep):=by simp[dU,gQ]
@[simp] theorem arj{L:br}{d:Option Nat}{op:VO}{os:List bA}{keep:cX}{k:cB}{S:St}:dU L (⟨d,op,none⟩::os) keep k S=cL (op.run L d S) (dU L os keep k):=by
 unfold dU cL;simp only[gQ,bA.run];cases op.run L d S<;>simp
theorem ib{L:br}{o:bA}{os:List bA}{keep:cX}{k:cB}{S:St}:dU L (o::os) keep k S=cL (o.run L S) (dU L os keep k):=by
 unfold dU cL;simp only[gQ];cases o.run L S<;>simp
def kO{α:Type}(c:Bool)(a b:α):α:=bif c then a else b
@[congr] theorem ark{α:Type}{c c':Bool}{a a' b b':α}(hc:c=c')(ha:c'=true→a=a')(hb:c'=false→b=b'):kO c a b=kO c' a' b':=by
 subst hc;cases c
 ·exact hb rfl
 ·exact ha rfl
@[congr] theorem arl{α:Type}{p q:Prop}{dp:Decidable p}[dq:Decidable q]{a a' b b':α}(hc:p=q)(ha:q→a=a')(hb:¬q→b=b'):@kO α (@decide p dp) a b=kO (decide q) a' b':=by
 subst hc;by_cases h:p
 ·simp[kO,h,ha h]
 ·simp[kO,h,hb h]
theorem lN{a b:Int}:(a==b)=decide (a=b):=by by_cases h:a=b<;>simp[h]
theorem mJ{a b:Int}:(a != b) = !decide (a=b):=by by_cases h:a=b<;>simp[h]
theorem mK{α:Type}{p:Prop}{dp:Decidable p}{a b:α}(h:p):(bif decide p then a else b)=a:=by simp[h]
@[simp] theorem arn{k:Int}:decide (k≤(lim:Int))=decide (k≤4294967296):=rfl
@[simp] theorem aro{k:Nat}:decide (k≤lim)=decide (k≤4294967296):=rfl
theorem mL{α:Type}{p q:Prop}{dp:Decidable p}{dq:Decidable q}{a b:α}(h:p∧q):(bif decide p&&decide q then a else b)=a:=by simp[h.1,h.2]
@[simp] theorem arp{α:Type}{a b:α}:kO true a b=a:=rfl
@[simp] theorem arq{α:Type}{a b:α}:kO false a b=b:=rfl
@[simp] theorem ars{α:Type}{c:Bool}{a b:α}:kO (!c) a b=kO c b a:=by cases c<;>rfl
@[simp] theorem art{α:Type}{c:Bool}{a b:α}:kO c (some a) (some b)=some (kO c a b):=by cases c<;>rfl
@[simp] theorem aru{c a b:Bool}:kO c (V.bool a) (V.bool b)=V.bool (bif c then a else b):=by cases c<;>rfl
def jD(o:Option V)(w:Bool)(x:Option V):Option V :=
 match o with
 |some (.bool b)=>bif b==w then x else some .undef
 |some .undef=>some .undef
 |_=>none
@[simp] theorem arv{b:Bool}{x:Option V}:jD (some (.bool b)) true x=kO b x (some .undef):=by cases b<;>rfl
@[simp] theorem arw{b:Bool}{x:Option V}:jD (some (.bool b)) false x=kO b (some .undef) x:=by cases b<;>rfl
@[simp] theorem arx{w:Bool}{x:Option V}:jD (some .undef) w x=some .undef:=rfl
@[simp] theorem ary{c b w:Bool}{v:V}{x:Option V}:jD (some (kO c (.bool b) v)) w x=kO c (jD (some (.bool b)) w x) (jD (some v) w x):=by cases c<;>rfl
@[simp] theorem arz{c b w:Bool}{v:V}{x:Option V}:jD (some (kO c v (.bool b))) w x=kO c (jD (some v) w x) (jD (some (.bool b)) w x):=by cases c<;>rfl
def yh(t:Option V)(x y:Option V):Option V:=match t with
 |some (.bool b)=>kO b x y
 |_=>none
@[simp] theorem arA{b:Bool}{x y:Option V}:yh (some (.bool b)) x y=kO b x y:=rfl
def kz(L:br)(d:Nat)(S:St)(os:List bA)(keep:cX)(k:cB):V→Prop:=fun v=>dU L os keep k (S.put (some d) v)
@[simp] theorem arB{L:br}{d:Nat}{S:St}{os:List bA}{keep:cX}{k:cB}{v:V}:kz L d S os keep k v=dU L os keep k { S with env:=(d,v)::S.env }:=rfl
theorem ot{L:br}{d g:Nat}{w:Bool}{op:VO}{x:Option V}{S:St}{os:List bA}{keep:cX}{k:cB}(ah:op.run L (some d) S=x.map (S.put (some d))) :
  cL (bA.run L ⟨some d,op,some (g,w)⟩ S) (dU L os keep k)=cL (jD (look g S.env) w x) (kz L d S os keep k):=by
 unfold bA.run jD;simp only;cases look g S.env with
 |none=>simp[cL]
 |some v =>
  cases v with
  |bool b =>
   simp only[ah];cases b==w with
   |true=>cases x<;>simp[cL,kz]
   |false=>simp[cL,kz]
  |undef=>simp[cL,kz]
  |_=>simp[cL]
@[simp high] theorem arC{L:br}{d:Nat}{c a b:bp}{os:List bA}{keep:cX}{k:cB}{S:St} :
  dU L (⟨some d,.pick c a b,none⟩::os) keep k S=cL (yh (S.ev c) (S.ev a) (S.ev b)) (kz L d S os keep k):=by
 rw[ib];simp only[bA.run,VO.run];rcases S.ev c with _|v
 ·simp[cL,yh]
 ·cases v with
  |bool t =>
   cases t
   ·simp only[yh,kO,eV]
    cases S.ev b<;>simp[cL,kz]
   ·simp only[yh,kO,bC]
    cases S.ev a<;>simp[cL,kz]
  |_=>simp[cL,yh]
@[simp] theorem arD{L:br}{d g:Nat}{w:Bool}{x:bp}{os:List bA}{keep:cX}{k:cB}{S:St} :
  dU L (⟨some d,.mv x,some (g,w)⟩::os) keep k S=cL (jD (look g S.env) w (S.ev x)) (kz L d S os keep k):=by
 rw[ib];refine ot ?_;simp only[VO.run]
 repeat' split
 all_goals (first|rfl|simp_all[St.put])
@[simp] theorem arE{L:br}{d g:Nat}{w:Bool}{c a b:bp}{os:List bA}{keep:cX}{k:cB}{S:St} :
  dU L (⟨some d,.pick c a b,some (g,w)⟩::os) keep k S=cL (jD (look g S.env) w (yh (S.ev c) (S.ev a) (S.ev b))) (kz L d S os keep k):=by
 rw[ib];refine ot ?_;simp only[VO.run];rcases S.ev c with _|v
 ·rfl
 ·cases v with
  |bool t =>
   cases t
   ·simp only[yh,kO,eV]
    cases S.ev b<;>rfl
   ·simp only[yh,kO,bC]
    cases S.ev a<;>rfl
  |_=>rfl
@[simp] theorem arF{L:br}{d g:Nat}{w:Bool}{z:List V}{ps:List (Nat×Nat×bp)}{os:List bA}{keep:cX}{k:cB}{S:St} :
  dU L (⟨some d,.build z ps,some (g,w)⟩::os) keep k S=cL (jD (look g S.env) w (match qI S ps z with|some cs=>some (.agg cs)|none=>none)) (kz L d S os keep k):=by
 rw[ib];refine ot ?_;simp only[VO.run]
 repeat' split
 all_goals (first|rfl|simp_all[St.put])
@[simp] theorem arG{L:br}{d g:Nat}{w:Bool}{r:jc}{z:Option Nat}{p:bp}{os:List bA}{keep:cX}{k:cB}{S:St} :
  dU L (⟨some d,.load r z p,some (g,w)⟩::os) keep k S=cL (jD (look g S.env) w (match S.ev p with|some v=>bif r.fits v then (match S.mU v with|some (cs,off)=>(loadAt z cs off).map (rT r)|none=>none) else none|none=>none)) (kz L d S os keep k):=by
 rw[ib];refine ot ?_;simp only[VO.run];rcases S.ev p with _|v
 ·rfl
 ·simp only
  cases r.fits v with
  |false=>rfl
  |true =>
   rcases S.mU v with _ | ⟨cs,off⟩
   ·rfl
   ·simp only[bC]
    rcases loadAt z cs off with _|u<;>rfl
@[simp] theorem arH{L:br}{d g:Nat}{w:Bool}{x:bp}{os:List bA}{keep:cX}{k:cB}{S:St} :
  dU L (⟨some d,.sY x,some (g,w)⟩::os) keep k S=cL (jD (look g S.env) w (match S.ev x with|some (.bG i o)=>some (.bG i o)|some (.bI i o)=>some (.bI i o)|some (.eI r o)=>some (.eI r o)|_=>none)) (kz L d S os keep k):=by
 rw[ib];refine ot ?_;simp only[VO.run]
 repeat' split
 all_goals (first|rfl|simp_all[St.put])
@[simp] theorem arI{L:br}{d g:Nat}{w:Bool}{o:BinOp}{x y:bp}{os:List bA}{keep:cX}{k:cB}{S:St} :
  dU L (⟨some d,.bin o x y,some (g,w)⟩::os) keep k S=cL (jD (look g S.env) w (match S.ev x,S.ev y with|some a,some b=>V.bin o a b|_,_=>none)) (kz L d S os keep k):=by
 rw[ib];refine ot ?_;simp only[VO.run]
 repeat' split
 all_goals (first|rfl|simp_all[St.put])
@[simp] theorem arJ{L:br}{d g:Nat}{w:Bool}{n:Bool}{x y:bp}{os:List bA}{keep:cX}{k:cB}{S:St} :
  dU L (⟨some d,.beq n x y,some (g,w)⟩::os) keep k S=cL (jD (look g S.env) w (match S.ev x,S.ev y with|some (.bool a),some (.bool b)=>some (.bool (bif n then a != b else a==b))|_,_=>none)) (kz L d S os keep k):=by
 rw[ib];refine ot ?_;simp only[VO.run]
 repeat' split
 all_goals (first|rfl|simp_all[St.put])
@[simp] theorem arK{L:br}{d g:Nat}{w:Bool}{n:Bool}{ks:List Nat}{x y:bp}{os:List bA}{keep:cX}{k:cB}{S:St} :
  dU L (⟨some d,.iu n ks x y,some (g,w)⟩::os) keep k S=cL (jD (look g S.env) w (match S.ev x,S.ev y with|some a,some b=>V.iu n ks a b|_,_=>none)) (kz L d S os keep k):=by
 rw[ib];refine ot ?_;simp only[VO.run]
 repeat' split
 all_goals (first|rfl|simp_all[St.put])
@[simp] theorem arL{L:br}{d g:Nat}{w:Bool}{o:UnOp}{x:bp}{os:List bA}{keep:cX}{k:cB}{S:St} :
  dU L (⟨some d,.un o x,some (g,w)⟩::os) keep k S=cL (jD (look g S.env) w (match S.ev x with|some a=>V.un o a|none=>none)) (kz L d S os keep k):=by
 rw[ib];refine ot ?_;simp only[VO.run]
 repeat' split
 all_goals (first|rfl|simp_all[St.put])
@[simp] theorem arM{L:br}{d g:Nat}{w:Bool}{kk:IntKind}{x:bp}{os:List bA}{keep:cX}{k:cB}{S:St} :
  dU L (⟨some d,.conv kk x,some (g,w)⟩::os) keep k S=cL (jD (look g S.env) w (match S.ev x with|some (.int _ n)=>some (.int kk (kk.wrap n))|_=>none)) (kz L d S os keep k):=by
 rw[ib];refine ot ?_;simp only[VO.run]
 repeat' split
 all_goals (first|rfl|simp_all[St.put])
@[simp] theorem arN{L:br}{d g:Nat}{w:Bool}{n:Nat}{x:bp}{os:List bA}{keep:cX}{k:cB}{S:St} :
  dU L (⟨some d,.rM n x,some (g,w)⟩::os) keep k S=cL (jD (look g S.env) w (match S.ev x with|some (.bG i o)=>some (.bG i (o+n))|some (.bI i o)=>some (.bI i (o+n))|some (.eI r o)=>some (.eI r (o+n))|_=>none)) (kz L d S os keep k):=by
 rw[ib];refine ot ?_;simp only[VO.run]
 repeat' split
 all_goals (first|rfl|simp_all[St.put])
@[simp] theorem arO{L:br}{d g:Nat}{w:Bool}{x:bp}{os:List bA}{keep:cX}{k:cB}{S:St} :
  dU L (⟨some d,.len x,some (g,w)⟩::os) keep k S=cL (jD (look g S.env) w (match S.ev x with|some .b9=>some (.int .i64 0)|some (.dX _)=>some (.int .i64 0)|some (.fx _)=>some (.int .i64 0)|some (.slice _ _ es)=>some (.int .i64 es.length)|some (.bP _ _ n)=>some (.int .i64 n)|some (.da _ _ n)=>some (.int .i64 n)|_=>none)) (kz L d S os keep k):=by
 rw[ib];refine ot ?_;simp only[VO.run]
 repeat' split
 all_goals (first|rfl|simp_all[St.put])
@[simp] theorem arP{L:br}{d g:Nat}{w:Bool}{x:bp}{os:List bA}{keep:cX}{k:cB}{S:St} :
  dU L (⟨some d,.tW x,some (g,w)⟩::os) keep k S=cL (jD (look g S.env) w (match S.ev x with|some (.str s)=>some (.int .i64 s.length)|_=>none)) (kz L d S os keep k):=by
 rw[ib];refine ot ?_;simp only[VO.run]
 repeat' split
 all_goals (first|rfl|simp_all[St.put])
@[simp] theorem arQ{L:br}{d g:Nat}{w:Bool}{x:bp}{i:Nat}{os:List bA}{keep:cX}{k:cB}{S:St} :
  dU L (⟨some d,.ext x i,some (g,w)⟩::os) keep k S=cL (jD (look g S.env) w (match S.ev x with|some (.tuple vs)=>vs[i]? | _=>none)) (kz L d S os keep k):=by
 rw[ib];refine ot ?_;simp only[VO.run]
 repeat' split
 all_goals (first|rfl|simp_all[St.put])
@[simp] theorem arR{L:br}{d g:Nat}{w:Bool}{n:Nat}{z:Option Nat}{x:bp}{os:List bA}{keep:cX}{k:cB}{S:St} :
  dU L (⟨some d,.field n z x,some (g,w)⟩::os) keep k S=cL (jD (look g S.env) w (match S.ev x with|some (.agg cs)=>loadAt z cs n|_=>none)) (kz L d S os keep k):=by
 rw[ib];refine ot ?_;simp only[VO.run]
 repeat' split
 all_goals (first|rfl|simp_all[St.put])
@[simp] theorem arS{L:br}{d g:Nat}{w:Bool}{m:Bool}{x y:bp}{os:List bA}{keep:cX}{k:cB}{S:St} :
  dU L (⟨some d,.mm m x y,some (g,w)⟩::os) keep k S=cL (jD (look g S.env) w (match S.ev x,S.ev y with|some (.int k a),some (.int _ b)=>some (.int k (bif m then max a b else min a b))|_,_=>none)) (kz L d S os keep k):=by
 rw[ib];refine ot ?_;simp only[VO.run];rcases S.ev x with _|a
 ·rfl
 ·rcases S.ev y with _|b
  ·cases a<;>rfl
  ·cases a<;>cases b<;>rfl
@[simp] theorem arT{L:br}{d g:Nat}{w:Bool}{m:Bool}{x y z:bp}{os:List bA}{keep:cX}{k:cB}{S:St} :
  dU L (⟨some d,.tY m x y z,some (g,w)⟩::os) keep k S=cL (jD (look g S.env) w (match S.ev x,S.ev y,S.ev z with|some (.int k a),some (.int _ b),some (.int _ c)=>some (.int k (bif m then max (max a b) c else min (min a b) c))|_,_,_=>none)) (kz L d S os keep k):=by
 rw[ib];refine ot ?_;simp only[VO.run];rcases S.ev x with _|a
 ·rfl
 ·rcases S.ev y with _|b
  ·cases a<;>rfl
  ·rcases S.ev z with _|c
   ·cases a<;>cases b<;>rfl
   ·cases a<;>cases b<;>cases c<;>rfl
@[simp] theorem arU{L:br}{d g:Nat}{w:Bool}{n z:Nat}{a:Bool}{x i:bp}{os:List bA}{keep:cX}{k:cB}{S:St} :
  dU L (⟨some d,.idx n z a x i,some (g,w)⟩::os) keep k S=cL (jD (look g S.env) w (match S.ev x,S.ev i with|some (.agg cs),some (.int _ k)=>bif decide (0≤k)&&decide (k<n) then loadAt (bif a then some z else none) cs (k.toNat*z) else none|_,_=>none)) (kz L d S os keep k):=by
 rw[ib];refine ot ?_;simp only[VO.run];rcases S.ev x with _|v
 ·rfl
 ·rcases S.ev i with _|j
  ·cases v<;>rfl
  ·cases v with
   |agg cs =>
    cases j with
    |int kk m =>
     simp only;cases (decide (0≤m)&&decide (m<n)) with
     |false=>rfl
     |true =>
      simp only[bC];rcases loadAt (bif a then some z else none) cs (m.toNat*z) with _|u<;>rfl
    |_=>rfl
   |_=>cases j<;>rfl
@[simp] theorem arV{L:br}{d g:Nat}{w:Bool}{n:Nat}{x i:bp}{os:List bA}{keep:cX}{k:cB}{S:St} :
  dU L (⟨some d,.nx none n x i,some (g,w)⟩::os) keep k S=cL (jD (look g S.env) w (match S.ev x,S.ev i with
   |some (.slice _ m es),some (.int _ k)=>bif decide (0≤k)&&(m==n) then (match es[k.toNat]? with|some r=>some (.eI r 0)|none=>none) else none
   |some (.bP id off ln),some (.int _ k)=>bif decide (0≤k)&&decide (k<ln)&&(off==n) then some (.bG id (k.toNat*n)) else none
   |some (.da id off ln),some (.int _ k)=>bif decide (0≤k)&&decide (k<ln)&&(off==n) then some (.bI id (k.toNat*n)) else none
   |_,_=>none)) (kz L d S os keep k):=by
 rw[ib];refine ot ?_;simp only[VO.run];rcases S.ev x with _|v
 ·rfl
 ·rcases S.ev i with _|j
  ·cases v<;>rfl
  ·cases v with
   |slice t m es =>
    cases j with
    |int kk q =>
     simp only;cases (decide (0≤q)&&(m==n)) with
     |false=>rfl
     |true =>
      simp only[bC];rcases es[q.toNat]? with _|u<;>rfl
    |_=>rfl
   |bP id off ln =>
    cases j with
    |int kk q =>
     simp only;cases (decide (0≤q)&&decide (q<ln)&&(off==n)) with
     |false=>rfl
     |true=>rfl
    |_=>rfl
   |da id off ln =>
    cases j with
    |int kk q =>
     simp only;cases (decide (0≤q)&&decide (q<ln)&&(off==n)) with
     |false=>rfl
     |true=>rfl
    |_=>rfl
   |_=>cases j<;>rfl
def nth{α:Type}[Inhabited α](l:List α)(i:Nat):α:=l.getD i default
theorem bg{α:Type}[Inhabited α]{l:List α}{i:Nat}(h:i<l.length):l[i]?=some (nth l i):=by
 simp[nth,List.getD,h]
theorem dV{l:List Int}{i:Nat}(h:i<l.length):l[i]?=some (nth l i):=bg h
def lk{α:Type}(b:Bool)(v:α)(s:Nat)(r:List (Nat×α)):Option α:=bif b then some v else look s r
@[simp] theorem arW{α:Type}{s k:Nat}{v:α}{r:List (Nat×α)}:look s ((k,v)::r)=lk (k==s) v s r:=rfl
@[simp] theorem arX{α:Type}{s:Nat}:look s ([]:List (Nat×α))=none:=rfl
@[simp] theorem arY{α:Type}{s:Nat}{v:α}{r:List (Nat×α)}:lk true v s r=some v:=rfl
@[simp] theorem arZ{α:Type}{s:Nat}{v:α}{r:List (Nat×α)}:lk false v s r=look s r:=rfl
def vT{α:Type}(d:Nat)(l:List (Nat×α)):List (Nat×α):=l.filter fun p => !(p.1==d)
def JS{α:Type}(b:Bool)(k:Nat)(v:α)(r:List (Nat×α)):List (Nat×α):=bif b then r else (k,v)::r
@[simp] theorem ar0{α:Type}{k:Nat}{v:α}{r:List (Nat×α)}:JS true k v r=r:=rfl
@[simp] theorem ar1{α:Type}{k:Nat}{v:α}{r:List (Nat×α)}:JS false k v r=(k,v)::r:=rfl
@[simp] theorem ar2{α:Type}{d:Nat}:vT d ([]:List (Nat×α))=[]:=rfl
@[simp] theorem ar3{α:Type}{d k:Nat}{v:α}{r:List (Nat×α)}:vT d ((k,v)::r)=JS (k==d) k v (vT d r):=by
 unfold vT JS;cases h:k==d<;>simp[List.filter,h]
@[simp] theorem ar4{α:Type}{d:Nat}{l:List (Nat×α)}:(l.filter fun p => !(p.1==d))=vT d l:=rfl
@[simp] theorem ar5{S:St}:S.clean []=some S:=rfl
@[simp] theorem ar6{S:St}{d:Nat}{ds:List Nat}:S.clean (d::ds)=bif ((vT d S.env).all fun p => !p.2.ch d)&&((vT d S.aW).all fun p=>p.2.all fun v => !v.cA d) then
  St.clean { env:=vT d S.env,aW:=vT d S.aW,bf:=vT d S.bf,ay:=S.ay } ds else none:=rfl
theorem Gq{α β:Type}{a:α}{b:β}{k:α→β→Prop}:(∃e T,(a=e∧b=T)∧k e T)↔k a b :=
 ⟨fun⟨_,_,⟨h,h'⟩,hk⟩=>by subst h;subst h';exact hk,fun h=>⟨_,_,⟨rfl,rfl⟩,h⟩⟩
def Vh(L:br)(ids:List Nat)(os:List bA)(keep:cX)(k:cB):St→Prop:=fun S=>cL (S.clean ids) (dU L os keep k)
@[simp] theorem af9{L:br}{ids:List Nat}{os:List bA}{keep:cX}{k:cB}{S:St}:Vh L ids os keep k S=cL (S.clean ids) (dU L os keep k):=rfl
@[simp] theorem ar7{L:br}{gh:List gI}{S:St}{k:cB}:go L (.A2 gh) S k=cL (nA gh S) (k .ret):=by
 refine propext ⟨?_,?_⟩
 ·rintro⟨n,e,T,h,hk⟩
  simp only[VC.run]at h;split at h
  ·rename_i S' h1;cases h;exact⟨_,h1,hk⟩
  ·cases h
 ·rintro⟨S',h1,hk⟩
  exact⟨0,_,_,by simp only[VC.run,h1],hk⟩
@[simp] theorem ar8{L:br}{S:St}{k:cB}:go L .dead S k=False:=by simp[go,VC.run,Gq]
@[simp] theorem go_skip{L:br}{S:St}{k:cB}:go L .skip S k=k .normal S:=by simp[go,VC.run,Gq]
@[simp] theorem ar9{L:br}{S:St}{k:cB}{i:Nat}:go L (.exit i) S k=k (.exit i) S:=by simp[go,VC.run,Gq]
@[simp] theorem go_ret{L:br}{S:St}{k:cB}:go L .ret S k=k .ret S:=by simp[go,VC.run,Gq]
@[simp] theorem go_region{L:br}{gh:List gI}{ids:List Nat}{os:List bA}{keep:cX}{S:St}{k:cB} :
  go L (.region gh ids os keep) S k=cL (nA gh S) (Vh L ids os keep k):=by
 unfold go cL;simp only[VC.run,af9];cases nA gh S with
 |none=>simp
 |some S1 =>
  simp only[Option.some.injEq,exists_eq_left',cL];cases S1.clean ids with
  |none=>simp
  |some S2 =>
   simp only[Option.some.injEq,exists_eq_left',dU];cases gQ L os S2 with
   |none=>simp
   |some S3=>simp[Gq]
@[simp] theorem asa{L:br}{a b:VC}{S:St}{k:cB}:go L (.seq a b) S k=go L a S (sq L b k):=by
 refine propext ⟨?_,?_⟩
 ·rintro⟨n,e,T,h,hk⟩
  simp only[VC.run]at h;split at h
  ·rename_i S' h1;exact⟨n,_,_,h1,n,_,_,h,hk⟩
  ·rename_i i S' h1;cases h;exact⟨n,_,_,h1,hk⟩
  ·rename_i S' h1;cases h;exact⟨n,_,_,h1,hk⟩
  ·cases h
 ·rintro⟨n,e,T,h,hk⟩
  cases e with
  |normal =>
   obtain⟨m,e,T',h',hk⟩:=hk;refine⟨n+m,e,T',?_,hk⟩;simp only[VC.run,wZ (Nat.le_add_right n m) h,wZ (Nat.le_add_left m n) h']
  |exit i=>exact⟨n,_,_,by simp only[VC.run,h],hk⟩
  |ret=>exact⟨n,_,_,by simp only[VC.run,h],hk⟩
@[simp] theorem asb{L:br}{c:bp}{a b:VC}{S:St}{k:cB}:go L (.cond c a b) S k=uB (S.ev c) (go L a S k) (go L b S k):=by
 refine propext ⟨?_,?_⟩
 ·rintro⟨n,e,T,h,hk⟩
  simp only[VC.run]at h;split at h
  ·rename_i t hc
   refine⟨t,hc,?_⟩;cases t with
   |true=>exact⟨n,e,T,h,hk⟩
   |false=>exact⟨n,e,T,h,hk⟩
  ·cases h
 ·rintro⟨t,hc,h⟩
  cases t with
  |true=>obtain⟨n,e,T,h,hk⟩:=h;exact⟨n,e,T,by simp only[VC.run,hc,bC];exact h,hk⟩
  |false=>obtain⟨n,e,T,h,hk⟩:=h;exact⟨n,e,T,by simp only[VC.run,hc,eV];exact h,hk⟩
@[simp] theorem asd{L:br}{id:Nat}{a:VC}{S:St}{k:cB}:go L (.block id a) S k=go L a S (bk id k):=by
 refine propext ⟨?_,?_⟩
 ·rintro⟨n,e,T,h,hk⟩
  simp only[VC.run]at h;split at h
  ·rename_i S' h1;cases h;exact⟨n,_,_,h1,hk⟩
  ·rename_i i S' h1
   refine⟨n,_,_,h1,?_⟩;cases hi:i==id with
   |true=>simp only[hi,bC]at h;cases h;simp only[bk,hi,bC];exact hk
   |false=>simp only[hi,eV]at h;cases h;simp only[bk,hi,eV];exact hk
  ·rename_i S' h1;cases h;exact⟨n,_,_,h1,hk⟩
  ·cases h
 ·rintro⟨n,e,T,h,hk⟩
  cases e with
  |normal=>exact⟨n,_,_,by simp only[VC.run,h],hk⟩
  |exit i =>
   cases hi:i==id with
   |true=>simp only[bk,hi,bC]at hk;exact⟨n,_,_,by simp only[VC.run,h,hi,bC],hk⟩
   |false=>simp only[bk,hi,eV]at hk;exact⟨n,_,_,by simp only[VC.run,h,hi,eV],hk⟩
  |ret=>exact⟨n,_,_,by simp only[VC.run,h],hk⟩
def JT{α:Type}(keep:cX)(st:α→St)(I:α→Prop)(mu:α→Nat)(m:Nat)(k:cB):cB:=fun e T=>match e with
 |.normal=>∃y,T.keep keep=st y∧I y∧mu y<m
 |.exit i=>k (.exit i) T
 |.ret=>k .ret T
@[simp] theorem ase{α:Type}{keep:cX}{st:α→St}{I:α→Prop}{mu:α→Nat}{m:Nat}{k:cB}{T:St}{i:Nat}:JT keep st I mu m k (.exit i) T=k (.exit i) T:=rfl
@[simp] theorem asf{α:Type}{keep:cX}{st:α→St}{I:α→Prop}{mu:α→Nat}{m:Nat}{k:cB}{T:St}:JT keep st I mu m k .ret T=k .ret T:=rfl
theorem bV{α:Type}{keep:cX}{st:α→St}{I:α→Prop}{mu:α→Nat}{m:Nat}{k:cB}{T:St}(y:α)(h:T.keep keep=st y)(hi:I y)(hm:mu y<m):JT keep st I mu m k .normal T:=⟨y,h,hi,hm⟩
theorem go_loop{α:Type}{L:br}{c:VC}{gh:List gI}{keep:cX}{a:VC}{k:cB}{S:St}(st:α→St)(I:α→Prop)(mu:α→Nat)(x:α)(hc:c=.loop gh keep a)(hS:cL (nA gh S) fun S=>S.keep keep=st x)(hI:I x)
  (step:∀x,I x→go L a (st x) (JT keep st I mu (mu x) k)):go L c S k:=by
 subst hc;obtain⟨S1,hg,hS⟩:=hS
 suffices h:∀m x S,S.keep keep=st x→mu x<m→I x→∃n e T,iter (fun S=>VC.run L n a (S.keep keep)) n S=some (e,T)∧k e T by
  obtain⟨n,e,T,h1,h2⟩:=h (mu x+1) x S1 hS (by omega) hI
  exact⟨n,e,T,by simp only[VC.run,hg];exact h1,h2⟩
 intro m;induction m with
 |zero=>intro x S _ h;omega
 |succ m ih =>
  intro x S hS hm hI;obtain⟨n,e,T,h1,h2⟩:=step x hI;rw[←hS]at h1;cases e with
  |normal =>
   obtain⟨y,hT,hy,bB⟩:=h2;obtain⟨n',e,T,h3,h4⟩:=ih y T hT (by omega) hy
   refine⟨n+n'+1,e,T,?_,h4⟩;simp only[iter];rw[wZ (by omega) h1]
   exact Gi (fun S x h=>wZ (by omega) h) (by omega) h3
  |exit i=>exact⟨n+1,_,_,by simp only[iter];rw[wZ (by omega) h1],h2⟩
  |ret=>exact⟨n+1,_,_,by simp only[iter];rw[wZ (by omega) h1],h2⟩
def gU(L:br)(f:FuncId)(args:List V)(G:List aT)(Q:V→List aT→Prop):Prop:=∃r G',L f args G=some (r,G')∧Q r G'
def yk(rs:List rQ)(Q:V→List aT→Prop):cB:=fun e T=>match e with
 |.normal=>cL (vk T rs) fun v=>Q v T.ay
 |.ret=>cL (vk T rs) fun v=>Q v T.ay
 |.exit _=>False
@[simp] theorem asg{rs:List rQ}{Q:V→List aT→Prop}{T:St}:yk rs Q .normal T=cL (vk T rs) fun v=>Q v T.ay:=rfl
@[simp] theorem ash{rs:List rQ}{Q:V→List aT→Prop}{T:St}:yk rs Q .ret T=cL (vk T rs) fun v=>Q v T.ay:=rfl
theorem ic{F:FuncId→Option bc}{f:FuncId}{vf:bc}(hf:F f=some vf){args:List V}{G:List aT}{Q:V→List aT→Prop}(hl:(args.length==vf.nparams&&vf.defs.isEmpty&&vf.split.isNone)=true)
  (h:go (bd F) vf.body { env:=pA 0 args,aW:=[],bf:=[],ay:=G } (yk vf.results Q)):gU (bd F) f args G Q:=by
 simp only[bQ,Iy,E5]at hl;obtain⟨⟨hl,hd⟩,hs⟩:=hl;obtain⟨n,e,T,h1,h2⟩:=h;cases e with
 |exit i=>exact h2.elim
 |normal =>
  obtain⟨v,h3,h4⟩:=h2;exact⟨v,T.ay,U3 hf (n:=n) hd hs (by simp only[bc.call,hl,bC,h1,h3]),h4⟩
 |ret =>
  obtain⟨v,h3,h4⟩:=h2;exact⟨v,T.ay,U3 hf (n:=n) hd hs (by simp only[bc.call,hl,bC,h1,h3]),h4⟩
theorem aga{F:FuncId→Option bc}{f:FuncId}{vf:bc}(hf:F f=some vf){i off:Nat}{G:List aT}{Q:V→List aT→Prop}(hl:(1==vf.nparams && !vf.defs.isEmpty&&vf.split.isNone)=true)
  (h:go (bd F) vf.body { env:=pA 0 [.bI i off],aW:=[],bf:=[],ay:=G } (yk vf.results fun _ G1=>∃G2,pB (bd F) [.bI i off] vf.defs.reverse G1=some G2∧Q (.tuple []) G2)):gU (bd F) f [.bI i off] G Q:=by
 simp only[bQ,tK,List.isEmpty_eq_false_iff,E5]at hl;obtain⟨⟨hl,hd⟩,hs⟩:=hl;obtain⟨n,e,T,h1,h2⟩:=h;cases e with
 |exit i=>exact h2.elim
 |normal =>
  obtain⟨v,h3,G2,h4,h5⟩:=h2;exact⟨_,G2,U5 hf (n:=n) hd hs (r:=v) (by simp only[bc.call,p7,hl,bC,h1,h3]) h4,h5⟩
 |ret =>
  obtain⟨v,h3,G2,h4,h5⟩:=h2;exact⟨_,G2,U5 hf (n:=n) hd hs (r:=v) (by simp only[bc.call,p7,hl,bC,h1,h3]) h4,h5⟩
theorem bX{F:FuncId→Option bc}{f:FuncId}{vf:bc}(hf:F f=some vf){args:List V}{G G':List aT}{r:V}(hl:(args.length==vf.nparams&&vf.defs.isEmpty&&vf.split.isNone)=true)
  (h:go (bd F) vf.body { env:=pA 0 args,aW:=[],bf:=[],ay:=G } (yk vf.results fun v G1=>v=r∧G1=G')):bd F f args G=some (r,G'):=by
 obtain⟨_,_,h1,rfl,rfl⟩:=ic hf hl h;exact h1
theorem Oc{F:FuncId→Option bc}{f:FuncId}{vf:bc}(hf:F f=some vf){args:List V}{G G':List aT}{r:V}{p m:Nat}(hl:(args.length==vf.nparams&&vf.defs.isEmpty)=true)(hs:vf.split=some p)(hp:args[p]?=some (.slice none m []))
  (h:go (bd F) vf.body { env:=pA 0 (args.set p .b9),aW:=[],bf:=[],ay:=G } (yk vf.results fun v G1=>v=r∧G1=G'))
  (h':go (bd F) vf.body { env:=pA 0 (args.set p (.fx m)),aW:=[],bf:=[],ay:=G } (yk vf.results fun v G1=>v=r∧G1=G')):bd F f args G=some (r,G'):=by
 simp only[bQ,Iy]at hl;obtain⟨hl,hd⟩:=hl;have key:∀u,go (bd F) vf.body { env:=pA 0 (args.set p u),aW:=[],bf:=[],ay:=G } (yk vf.results fun v G1=>v=r∧G1=G')→∃n,vf.call (bd F) n (args.set p u) G=some (r,G'):=fun u h=>by
  obtain⟨n,e,T,h1,h2⟩:=h;have Vi:((args.set p u).length==vf.nparams)=true:=by rw[oJ];exact hl
  cases e with
  |exit i=>exact h2.elim
  |normal =>
   obtain⟨v,h3,rfl,rfl⟩:=h2;exact⟨n,by simp only[bc.call,Vi,bC,h1,h3]⟩
  |ret =>
   obtain⟨v,h3,rfl,rfl⟩:=h2;exact⟨n,by simp only[bc.call,Vi,bC,h1,h3]⟩
 obtain⟨n,h1⟩:=key _ h;obtain⟨k,h2⟩:=key _ h';exact afZ hf hd hs hp h1 h2
theorem Od{F:FuncId→Option bc}{f:FuncId}{vf:bc}(hf:F f=some vf){args:List V}{G G':List aT}{r:V}{p:Nat}(hl:(args.length==vf.nparams&&vf.defs.isEmpty)=true)(hs:vf.split=some p)(hp:∀m,args[p]?≠some (.slice none m []))
  (h:go (bd F) vf.body { env:=pA 0 args,aW:=[],bf:=[],ay:=G } (yk vf.results fun v G1=>v=r∧G1=G')):bd F f args G=some (r,G'):=by
 simp only[bQ,Iy]at hl;obtain⟨hl,hd⟩:=hl;obtain⟨n,e,T,h1,h2⟩:=h;cases e with
 |exit i=>exact h2.elim
 |normal =>
  obtain⟨v,h3,rfl,rfl⟩:=h2;exact U4 hf (n:=n) hd hs hp (by simp only[bc.call,hl,bC,h1,h3])
 |ret =>
  obtain⟨v,h3,rfl,rfl⟩:=h2;exact U4 hf (n:=n) hd hs hp (by simp only[bc.call,hl,bC,h1,h3])
abbrev i64(n:Int):V:=.int .i64 n
theorem wrap64{n:Int}(h1:-9223372036854775808≤n)(h2:n≤9223372036854775807):IntKind.i64.wrap n=n:=by
 simp[IntKind.wrap,IntKind.bits,IntKind.signed];omega
def rep{α:Type}(n:Nat)(x:α):List α:=List.replicate n x
@[simp] theorem asi{α:Type}{n:Nat}{x:α}:(rep n x).length=n:=by simp[rep]
def eP(n:Nat)(f:Nat→Int):List V:=(List.range n).map fun j=>.int .i64 (f j)
@[simp] theorem asj{n:Nat}{f:Nat→Int}:(eP n f).length=n:=by simp[eP]
theorem Oe{n:Nat}{f g:Nat→Int}(h:∀j,j<n→f j=g j):eP n f=eP n g:=by
 unfold eP;apply EV;intro j hj;rw[h j (by simpa using hj)]
theorem oX{n:Nat}{f:Nat→Int}{i:Nat}(h:i<n):(eP n f)[i]?=some (.int .i64 (f i)):=by simp[eP,h]
@[simp] theorem asl{n:Nat}{f:Nat→Int}{i:Nat}{v:Int}:(eP n f).set i (.int .i64 v)=eP n fun j=>if j=i then v else f j:=by
 apply xq;intro k;by_cases hk:k<n
 ·by_cases h:i=k
  ·subst h
   rw[SH (by simpa using hk),oX hk]
   simp
  ·rw[SG h,oX hk,oX hk,aA (fun e=>h e.symm)]
 ·rw[kF (by simp;omega),kF (by simp;omega)]
@[simp] theorem asm{n:Nat}{f:Nat→Int}:(eP n f).all V.cI=true:=by
 simp[eP,V.cI]
@[simp] theorem asn{n:Nat}{f:Nat→Int}{d:Nat}:(eP n f).all (fun v => !v.cA d)=true:=by
 simp[eP,V.cA]
@[simp] theorem aso{n:Nat}{f:Nat→Int}:(eP n f).all V.iv=true:=by
 simp[eP,V.iv,V.plain]
@[simp] theorem asp{n:Nat}{f:Nat→Int}:(eP n f).map gP=eP n f:=by
 simp[eP,gP]
@[simp] theorem asq{n:Nat}{f:Nat→Int}:(eP n f).map strip=eP n f:=by
 simp[eP,strip,gP]
@[simp] theorem asr{n:Nat}{f:Nat→Int}{d:Nat}:(eP n f).any (V.cA d)=false:=by
 simp[eP,V.cA]
@[simp] theorem agb{n:Nat}{f:Nat→Int}:(eP n f).take n=eP n f:=kG (by simp)
theorem Vj{S:St}{used:List Nat}{α:Type}(g:α→Int):∀l:List α,mW S (List.replicate l.length none) used (l.map fun j=>.int .i64 (g j))=some (l.map fun j=>.int .i64 (g j),used)
 |[]=>rfl
 |a::l=>by simp[zC,mW,zH,py,el,Vj g l]
@[simp] theorem ass{S:St}{used:List Nat}{n:Nat}{f:Nat→Int}:mW S (rep n none) used (eP n f)=some (eP n f,used):=by
 unfold rep;have:=Vj (S:=S) (used:=used) f (List.range n)
 rwa [Mk]at this
@[simp] theorem Vk{n:Nat}:rep n (V.int .i64 0)=eP n fun _=>0:=by
 simp[rep,eP,List.map_const']
theorem Vl:∀(cs:List V) (off:Nat) (vs:List V),off+vs.length≤cs.length→iF cs off vs=cs.take off++vs++cs.drop (off+vs.length)
 |cs,off,[],h=>by simp[iF]
 |cs,off,v::vs,h=>by
  simp only[wB]at h;rw[iF,Vl _ _ _ (by simp;omega)]
  apply xq;intro i;simp only[wB,pj,Ml,po,oJ,kn,km,nT,List.getElem?_cons];rcases E1 i off with h1|h1|h1
  ·simp (disch:=omega) [h1,aP,aA]
  ·subst h1
   grind
  ·grind
theorem agc{cs vs:List V}(h:vs.length=cs.length):iF cs 0 vs=vs:=by
 rw[Vl _ _ _ (by omega)]
 simp[h]
@[simp] theorem ast{n:Nat}{f g:Nat→Int}:iF (eP n f) 0 (eP n g)=eP n g:=agc (by simp)
@[simp] theorem sm0{d:Nat} :
  V.cA d .undef=false ∧
  V.dv d .undef=false ∧
  V.ch d .undef=false ∧
  V.cA d .b9=false ∧
  V.dv d .b9=false ∧
  V.ch d .b9=false ∧
  V.cA d .fQ=false ∧
  V.dv d .fQ=false ∧
  V.ch d .fQ=false ∧
  V.cA d .fR=false ∧
  V.dv d .fR=false ∧
  V.ch d .fR=false ∧
  V.cA d .fS=false ∧
  V.dv d .fS=false ∧
  V.ch d .fS=false:=by and_intros<;>rfl
@[simp] theorem sm1  :
  V.cI .undef=false ∧
  V.cells .undef=[.undef] ∧
  V.plain .undef=false ∧
  V.iv .undef=false ∧
  V.iG .undef=false ∧
  V.lone .undef=false ∧
  gP .undef=.undef ∧
  strip .undef=.undef ∧
  V.cI .b9=true ∧
  V.cells .b9=[.b9] ∧
  V.plain .b9=true ∧
  V.iv .b9=true ∧
  V.iG .b9=true ∧
  V.lone .b9=true ∧
  gP .b9=.b9 ∧
  strip .b9=.b9 ∧
  V.cI .fQ=true ∧
  V.cells .fQ=[.fQ] ∧
  V.plain .fQ=false ∧
  V.iv .fQ=false ∧
  V.iG .fQ=false ∧
  V.lone .fQ=false ∧
  gP .fQ=.fQ ∧
  strip .fQ=.fQ ∧
  V.cI .fR=true ∧
  V.cells .fR=[.fR] ∧
  V.plain .fR=false ∧
  V.iv .fR=false ∧
  V.iG .fR=false ∧
  V.lone .fR=false ∧
  gP .fR=.fR ∧
  strip .fR=.fR ∧
  V.cI .fS=true ∧
  V.cells .fS=[.fS] ∧
  V.plain .fS=false ∧
  V.iv .fS=false ∧
  V.iG .fS=false ∧
  V.lone .fS=false ∧
  gP .fS=.fS ∧
  strip .fS=.fS ∧
  V.iV .b9=.b9 ∧
  V.kq .b9=.b9 ∧
  V.iV .fQ=.fQ ∧
  V.kq .fQ=.fQ ∧
  V.iV .fR=.fR ∧
  V.kq .fR=.fR ∧
  V.iV .fS=.fS ∧
  V.kq .fS=.fS:=by and_intros<;>rfl
@[simp] theorem sm2{k:IntKind}{n:Int}{d:Nat} :
  V.cA d (.int k n)=false ∧
  V.dv d (.int k n)=false ∧
  V.ch d (.int k n)=false:=by and_intros<;>rfl
@[simp] theorem sm3{k:IntKind}{n:Int} :
  V.cI (.int k n)=true ∧
  V.cells (.int k n)=[.int k n] ∧
  V.plain (.int k n)=true ∧
  V.iv (.int k n)=true ∧
  V.iG (.int k n)=true ∧
  V.lone (.int k n)=true ∧
  gP (.int k n)=.int k n ∧
  strip (.int k n)=.int k n ∧
  V.iV (.int k n)=.int k n ∧
  V.kq (.int k n)=.int k n:=by and_intros<;>rfl
@[simp] theorem sm4{b:Bool}{d:Nat} :
  V.cA d (.bool b)=false ∧
  V.dv d (.bool b)=false ∧
  V.ch d (.bool b)=false:=by and_intros<;>rfl
@[simp] theorem sm5{b:Bool} :
  V.cI (.bool b)=true ∧
  V.cells (.bool b)=[.bool b] ∧
  V.plain (.bool b)=true ∧
  V.iv (.bool b)=true ∧
  V.iG (.bool b)=true ∧
  V.lone (.bool b)=true ∧
  gP (.bool b)=.bool b ∧
  strip (.bool b)=.bool b ∧
  V.iV (.bool b)=.bool b ∧
  V.kq (.bool b)=.bool b:=by and_intros<;>rfl
@[simp] theorem sm6{s:List UInt8}{d:Nat} :
  V.cA d (.str s)=false ∧
  V.dv d (.str s)=false ∧
  V.ch d (.str s)=false:=by and_intros<;>rfl
@[simp] theorem sm7{s:List UInt8} :
  V.cI (.str s)=true ∧
  V.cells (.str s)=[.str s] ∧
  V.plain (.str s)=true ∧
  V.iv (.str s)=true ∧
  V.iG (.str s)=true ∧
  V.lone (.str s)=true ∧
  gP (.str s)=.str s ∧
  strip (.str s)=.str s ∧
  V.iV (.str s)=.str s ∧
  V.kq (.str s)=.str s:=by and_intros<;>rfl
@[simp] theorem sm8{z:Nat}{es:List (List V)}{d:Nat} :
  V.cA d (.slice none z es)=false ∧
  V.dv d (.slice none z es)=false ∧
  V.ch d (.slice none z es)=false:=by and_intros<;>rfl
@[simp] theorem sm9{z:Nat}{es:List (List V)} :
  V.cI (.slice none z es)=true ∧
  V.cells (.slice none z es)=[.slice none z es] ∧
  V.plain (.slice none z es)=true ∧
  V.iv (.slice none z es)=true ∧
  V.iG (.slice none z es)=true ∧
  V.lone (.slice none z es)=true ∧
  gP (.slice none z es)=.slice none z es ∧
  strip (.slice none z es)=.slice none z es:=by and_intros<;>rfl
@[simp] theorem asE{t z:Nat}{es:List (List V)}{d:Nat} :
  V.cA d (.slice (some t) z es:V)=(t==d) ∧
  V.dv d (.slice (some t) z es:V)=(t==d) ∧
  V.ch d (.slice (some t) z es:V)=(t==d):=by and_intros<;>rfl
@[simp] theorem asF{t z:Nat}{es:List (List V)} :
  V.cI (.slice (some t) z es:V)=true ∧
  V.cells (.slice (some t) z es:V)=[.slice (some t) z es] ∧
  V.plain (.slice (some t) z es:V)=false ∧
  V.iv (.slice (some t) z es:V)=true ∧
  V.iG (.slice (some t) z es:V)=true ∧
  V.lone (.slice (some t) z es:V)=true ∧
  gP (.slice (some t) z es:V)=.slice none z es ∧
  strip (.slice (some t) z es:V)=.slice none z es:=by and_intros<;>rfl
@[simp] theorem asG{cs:List V}{d:Nat} :
  V.cA d (.agg cs)=true ∧
  V.dv d (.agg cs)=cs.any (V.cA d) ∧
  V.ch d (.agg cs)=cs.any (V.cA d):=by and_intros<;>rfl
@[simp] theorem asH{cs:List V} :
  V.cI (.agg cs)=false ∧
  V.cells (.agg cs)=cs ∧
  V.plain (.agg cs)=false ∧
  V.iv (.agg cs)=false ∧
  V.iG (.agg cs)=cs.all V.iv ∧
  V.lone (.agg cs)=cs.all V.iv ∧
  gP (.agg cs)=.agg cs ∧
  strip (.agg cs)=.agg (cs.map gP) ∧
  V.kq (.agg cs)=.agg (cs.map V.iV):=by and_intros<;>rfl
@[simp] theorem asI{vs:List V}{d:Nat} :
  V.cA d (.tuple vs)=true ∧
  V.dv d (.tuple vs)=true ∧
  V.ch d (.tuple vs)=vs.any (V.dv d):=by and_intros<;>rfl
@[simp] theorem asJ{vs:List V} :
  V.cI (.tuple vs)=false ∧
  V.cells (.tuple vs)=[.tuple vs] ∧
  V.plain (.tuple vs)=false ∧
  V.iv (.tuple vs)=false ∧
  V.iG (.tuple vs)=false ∧
  V.lone (.tuple vs)=vs.all V.iG ∧
  gP (.tuple vs)=.tuple vs ∧
  strip (.tuple vs)=.tuple vs:=by and_intros<;>rfl
@[simp] theorem asK{r:List V}{o:Nat}{d:Nat} :
  V.cA d (.eI r o)=false ∧
  V.dv d (.eI r o)=false ∧
  V.ch d (.eI r o)=false:=by and_intros<;>rfl
@[simp] theorem asL{r:List V}{o:Nat} :
  V.cI (.eI r o)=true ∧
  V.cells (.eI r o)=[.eI r o] ∧
  V.plain (.eI r o)=false ∧
  V.iv (.eI r o)=false ∧
  V.iG (.eI r o)=false ∧
  V.lone (.eI r o)=false ∧
  gP (.eI r o)=.eI r o ∧
  strip (.eI r o)=.eI r o:=by and_intros<;>rfl
@[simp] theorem asM{i o:Nat}{d:Nat} :
  V.cA d (.bG i o)=(i==d) ∧
  V.dv d (.bG i o)=(i==d) ∧
  V.ch d (.bG i o)=(i==d) ∧
  V.cA d (.bI i o)=false ∧
  V.dv d (.bI i o)=false ∧
  V.ch d (.bI i o)=false:=by and_intros<;>rfl
@[simp] theorem asN{i o:Nat} :
  V.cI (.bG i o)=true ∧
  V.cells (.bG i o)=[.bG i o] ∧
  V.plain (.bG i o)=false ∧
  V.iv (.bG i o)=false ∧
  V.iG (.bG i o)=false ∧
  V.lone (.bG i o)=false ∧
  gP (.bG i o)=.bG i o ∧
  strip (.bG i o)=.bG i o ∧
  V.cI (.bI i o)=true ∧
  V.cells (.bI i o)=[.bI i o] ∧
  V.plain (.bI i o)=false ∧
  V.iv (.bI i o)=false ∧
  V.iG (.bI i o)=false ∧
  V.lone (.bI i o)=false ∧
  gP (.bI i o)=.bI i o ∧
  strip (.bI i o)=.bI i o ∧
  V.iV (.bI i o)=.bI i o ∧
  V.kq (.bI i o)=.bI i o:=by and_intros<;>rfl
@[simp] theorem asO{i o l:Nat}{d:Nat} :
  V.cA d (.bP i o l)=(i==d) ∧
  V.dv d (.bP i o l)=(i==d) ∧
  V.ch d (.bP i o l)=(i==d):=by and_intros<;>rfl
@[simp] theorem asP{i o l:Nat} :
  V.cI (.bP i o l)=true ∧
  V.cells (.bP i o l)=[.bP i o l] ∧
  V.plain (.bP i o l)=false ∧
  V.iv (.bP i o l)=false ∧
  V.iG (.bP i o l)=false ∧
  V.lone (.bP i o l)=false ∧
  gP (.bP i o l)=.bP i o l ∧
  strip (.bP i o l)=.bP i o l ∧
  V.iV (.bP i o l)=.bP i o l ∧
  V.kq (.bP i o l)=.bP i o l:=by and_intros<;>rfl
@[simp] theorem asQ{f:FuncId}{c:List V}{d:Nat} :
  V.cA d (.fn f c)=false ∧
  V.dv d (.fn f c)=false ∧
  V.ch d (.fn f c)=false:=by and_intros<;>rfl
@[simp] theorem asR{f:FuncId}{c:List V} :
  V.cI (.fn f c)=true ∧
  V.cells (.fn f c)=[.fn f c] ∧
  V.plain (.fn f c)=false ∧
  V.iv (.fn f c)=false ∧
  V.iG (.fn f c)=false ∧
  V.lone (.fn f c)=false ∧
  gP (.fn f c)=.fn f c ∧
  strip (.fn f c)=.fn f c ∧
  V.iV (.fn f c)=.fn f c ∧
  V.kq (.fn f c)=.fn f c:=by and_intros<;>rfl
@[simp] theorem asS{i:Nat}{d:Nat} :
  V.cA d (.map i)=false ∧
  V.dv d (.map i)=false ∧
  V.ch d (.map i)=false:=by and_intros<;>rfl
@[simp] theorem asT{i:Nat} :
  V.cI (.map i)=true ∧
  V.cells (.map i)=[.map i] ∧
  V.plain (.map i)=false ∧
  V.iv (.map i)=false ∧
  V.iG (.map i)=false ∧
  V.lone (.map i)=false ∧
  gP (.map i)=.map i ∧
  strip (.map i)=.map i ∧
  V.iV (.map i)=.map i ∧
  V.kq (.map i)=.map i:=by and_intros<;>rfl
@[simp] theorem asU{n:Nat}{es:List (List V)}{d:Nat} :
  V.cA d (.e9 n es)=false ∧
  V.dv d (.e9 n es)=false ∧
  V.ch d (.e9 n es)=false:=by and_intros<;>rfl
@[simp] theorem asV{n:Nat}{es:List (List V)} :
  V.cI (.e9 n es)=true ∧
  V.cells (.e9 n es)=[.e9 n es] ∧
  V.plain (.e9 n es)=false ∧
  V.iv (.e9 n es)=false ∧
  V.iG (.e9 n es)=false ∧
  V.lone (.e9 n es)=false ∧
  gP (.e9 n es)=.e9 n es ∧
  strip (.e9 n es)=.e9 n es ∧
  V.iV (.e9 n es)=.slice none n es ∧
  V.kq (.e9 n es)=.slice none n es:=by and_intros<;>rfl
@[simp] theorem asW{t:Option Nat}{n:Nat}{es:List (List V)} :
  V.iV (.slice t n es)=.slice t n es ∧
  V.kq (.slice t n es)=.slice t n es:=by and_intros<;>rfl
@[simp] theorem asX{n:Nat}{d:Nat} :
  V.cA d (.dX n)=false ∧
  V.dv d (.dX n)=false ∧
  V.ch d (.dX n)=false ∧
  V.cA d (.fx n)=false ∧
  V.dv d (.fx n)=false ∧
  V.ch d (.fx n)=false:=by and_intros<;>rfl
@[simp] theorem asY{n:Nat} :
  V.cI (.dX n)=true ∧
  V.cells (.dX n)=[.dX n] ∧
  V.plain (.dX n)=false ∧
  V.iv (.dX n)=false ∧
  V.iG (.dX n)=false ∧
  V.lone (.dX n)=false ∧
  gP (.dX n)=.dX n ∧
  strip (.dX n)=.dX n ∧
  V.iV (.dX n)=.dX n ∧
  V.kq (.dX n)=.dX n ∧
  V.cI (.fx n)=true ∧
  V.cells (.fx n)=[.fx n] ∧
  V.plain (.fx n)=false ∧
  V.iv (.fx n)=false ∧
  V.iG (.fx n)=false ∧
  V.lone (.fx n)=false ∧
  gP (.fx n)=.fx n ∧
  strip (.fx n)=.fx n ∧
  V.iV (.fx n)=.fx n ∧
  V.kq (.fx n)=.fx n:=by and_intros<;>rfl
@[simp] theorem asZ{t:Option Nat}{z:Nat}{es:List (List V)}:gP (.slice t z es:V)=.slice none z es:=by cases t<;>rfl
@[simp] theorem as0{t:Option Nat}{z:Nat}{es:List (List V)}:strip (.slice t z es:V)=.slice none z es:=by cases t<;>rfl
@[simp] theorem as1{t:Option Nat}{z:Nat}{es:List (List V)}:V.iv (.slice t z es:V)=true:=by cases t<;>rfl
@[simp] theorem as2{t:Option Nat}{z:Nat}{es:List (List V)}:V.iG (.slice t z es:V)=true:=by cases t<;>rfl
@[simp] theorem as3{t:Option Nat}{z:Nat}{es:List (List V)}:V.lone (.slice t z es:V)=true:=by cases t<;>rfl
@[simp] theorem as4{t:Option Nat}{z:Nat}{es:List (List V)}:V.cI (.slice t z es:V)=true:=by cases t<;>rfl
@[simp] theorem as5{t:Option Nat}{z:Nat}{es:List (List V)}:V.cells (.slice t z es:V)=[.slice t z es]:=by cases t<;>rfl
@[simp] theorem as6{v:V}:rT .jJ v=v:=rfl
@[simp] theorem as7{i:Nat}{v:V}:rT (.loc i) v=v:=rfl
@[simp] theorem as8{v:V}:rT .ay v=v.kq:=rfl
def Of(L:br)(d:Option Nat)(reg:List (Nat×Nat))(S:St)(os:List bA)(keep:cX)(k:cB):V×List aT→Prop:=fun r =>
 r.1.lone=true∧dU L os keep k ({ S with bf:=(recv reg r.1).2++S.bf }.put d (recv reg r.1).1)
@[simp] theorem agd{L:br}{d:Option Nat}{reg:List (Nat×Nat)}{S:St}{os:List bA}{keep:cX}{k:cB}{r:V}{G:List aT} :
  Of L d reg S os keep k (r,G)=(r.lone=true∧dU L os keep k ({ S with bf:=(recv reg r).2++S.bf }.put d (recv reg r).1)):=rfl
def Vn(L:br)(d:Option Nat)(g:FuncId)(reg:List (Nat×Nat))(S:St)(os:List bA)(keep:cX)(k:cB):List V→Prop:=fun vs=>cL (L g vs []) (Of L d reg S os keep k)
@[simp] theorem age{L:br}{d:Option Nat}{g:FuncId}{reg:List (Nat×Nat)}{S:St}{os:List bA}{keep:cX}{k:cB}{vs:List V} :
  Vn L d g reg S os keep k vs=cL (L g vs []) (Of L d reg S os keep k):=rfl
@[simp high] theorem as9{L:br}{d:Option Nat}{g:FuncId}{args:List (Sh×bp)}{reg:List (Nat×Nat)}{os:List bA}{keep:cX}{k:cB}{S:St} :
  dU L (⟨d,.call true (.c (.fn g [])) args reg,none⟩::os) keep k S=cL (mC S args) (Vn L d g reg S os keep k):=by
 rw[ib];simp only[bA.run,VO.run,St.ev];cases mC S args with
 |none=>simp[cL]
 |some vs =>
  simp only[tq,age];rcases L g vs []with _ | ⟨r,G⟩
  ·simp[cL]
  ·simp only[tq,agd]
   cases r.lone<;>simp[cL]
def Og(L:br)(d:Option Nat)(reg:List (Nat×Nat))(S:St)(os:List bA)(keep:cX)(k:cB):V×List aT→Prop:=fun r =>
 dU L os keep k ({ S with ay:=r.2,bf:=(recv reg r.1).2++S.bf }.put d (recv reg r.1).1)
@[simp] theorem ata{L:br}{d:Option Nat}{reg:List (Nat×Nat)}{S:St}{os:List bA}{keep:cX}{k:cB}{r:V}{G:List aT} :
  Og L d reg S os keep k (r,G)=dU L os keep k ({ S with ay:=G,bf:=(recv reg r).2++S.bf }.put d (recv reg r).1):=rfl
def Oh(L:br)(d:Option Nat)(g:FuncId)(cap:List V)(reg:List (Nat×Nat))(S:St)(os:List bA)(keep:cX)(k:cB):List V→Prop:=fun vs=>cL (L g (vs++cap) S.ay) (Og L d reg S os keep k)
@[simp] theorem agf{L:br}{d:Option Nat}{g:FuncId}{cap:List V}{reg:List (Nat×Nat)}{S:St}{os:List bA}{keep:cX}{k:cB}{vs:List V} :
  Oh L d g cap reg S os keep k vs=cL (L g (vs++cap) S.ay) (Og L d reg S os keep k):=rfl
def Oi(L:br)(d:Option Nat)(args:List (Sh×bp))(reg:List (Nat×Nat))(S:St)(os:List bA)(keep:cX)(k:cB):V→Prop:=fun f=>match f with
 |.fn g cap=>cL (mB S args) (Oh L d g cap reg S os keep k)
 |_=>False
@[simp] theorem agh{L:br}{d:Option Nat}{args:List (Sh×bp)}{reg:List (Nat×Nat)}{S:St}{os:List bA}{keep:cX}{k:cB}{g:FuncId}{cap:List V} :
  Oi L d args reg S os keep k (.fn g cap)=cL (mB S args) (Oh L d g cap reg S os keep k):=rfl
@[simp high] theorem atb{L:br}{d:Option Nat}{f:bp}{args:List (Sh×bp)}{reg:List (Nat×Nat)}{os:List bA}{keep:cX}{k:cB}{S:St} :
  dU L (⟨d,.call false f args reg,none⟩::os) keep k S=cL (S.ev f) (Oi L d args reg S os keep k):=by
 rw[ib];simp only[bA.run,VO.run];rcases S.ev f with _|v
 ·simp[cL]
 ·simp only[tq]
  cases v with
  |fn g cap =>
   simp only[agh];cases mB S args with
   |none=>simp[cL]
   |some vs =>
    simp only[tq,agf];rcases L g (vs++cap) S.ay with _ | ⟨r,G⟩
    ·simp[cL]
    ·simp
  |_=>simp[cL,Oi]
def Oj(L:br)(d:Option Nat)(S:St)(os:List bA)(keep:cX)(k:cB):V×List aT→Prop:=fun r =>
 r.2=S.ay∧dU L os keep k (S.put d (recv [] r.1).1)
@[simp] theorem agi{L:br}{d:Option Nat}{S:St}{os:List bA}{keep:cX}{k:cB}{r:V}{G:List aT} :
  Oj L d S os keep k (r,G)=(G=S.ay∧dU L os keep k (S.put d (recv [] r).1)):=rfl
def Ol(L:br)(d:Option Nat)(g:FuncId)(cap:List V)(S:St)(os:List bA)(keep:cX)(k:cB):List V→Prop:=fun vs=>cL (L g (vs++cap) S.ay) (Oj L d S os keep k)
@[simp] theorem agj{L:br}{d:Option Nat}{g:FuncId}{cap:List V}{S:St}{os:List bA}{keep:cX}{k:cB}{vs:List V} :
  Ol L d g cap S os keep k vs=cL (L g (vs++cap) S.ay) (Oj L d S os keep k):=rfl
def Om(L:br)(d:Option Nat)(args:List (Sh×bp))(S:St)(os:List bA)(keep:cX)(k:cB):V→Prop:=fun f=>match f with
 |.fn g cap=>cL (mB S args) (Ol L d g cap S os keep k)
 |_=>False
@[simp] theorem agk{L:br}{d:Option Nat}{args:List (Sh×bp)}{S:St}{os:List bA}{keep:cX}{k:cB}{g:FuncId}{cap:List V} :
  Om L d args S os keep k (.fn g cap)=cL (mB S args) (Ol L d g cap S os keep k):=rfl
@[simp high] theorem atc{L:br}{d:Option Nat}{f:bp}{args:List (Sh×bp)}{os:List bA}{keep:cX}{k:cB}{S:St} :
  dU L (⟨d,.qE f args,none⟩::os) keep k S=cL (S.ev f) (Om L d args S os keep k):=by
 rw[ib];simp only[bA.run,VO.run];rcases S.ev f with _|v
 ·simp[cL]
 ·simp only[tq]
  cases v with
  |fn g cap =>
   simp only[agk];cases mB S args with
   |none=>simp[cL]
   |some vs =>
    simp only[tq,agj];rcases L g (vs++cap) S.ay with _ | ⟨r,G⟩
    ·simp[cL]
    ·simp only[tq,agi,rd]
     by_cases h:G=S.ay
     ·simp[h]
     ·simp[h,cL]
  |_=>simp[cL,Om]
def JU(L:br)(d:Option Nat)(id:Nat)(S:St)(os:List bA)(keep:cX)(k:cB):V×Option (List V)→Prop:=fun p=>match p.2 with
 |some cs=>dU L os keep k ({ S with aW:=(id,cs)::S.aW }.put d p.1)
 |none=>dU L os keep k (S.put d p.1)
@[simp] theorem atd{L:br}{d:Option Nat}{id:Nat}{S:St}{os:List bA}{keep:cX}{k:cB}{v:V}{cs:List V} :
  JU L d id S os keep k (v,some cs)=dU L os keep k ({ S with aW:=(id,cs)::S.aW }.put d v):=rfl
@[simp] theorem ate{L:br}{d:Option Nat}{id:Nat}{S:St}{os:List bA}{keep:cX}{k:cB}{v:V} :
  JU L d id S os keep k (v,none)=dU L os keep k (S.put d v):=rfl
def On(L:br)(d:Option Nat)(id pos:Nat)(S:St)(os:List bA)(keep:cX)(k:cB):V×List aT→Prop:=fun r=>cL (jW id pos r.1) (JU L d id S os keep k)
@[simp] theorem agl{L:br}{d:Option Nat}{id pos:Nat}{S:St}{os:List bA}{keep:cX}{k:cB}{r:V}{G:List aT} :
  On L d id pos S os keep k (r,G)=cL (jW id pos r) (JU L d id S os keep k):=rfl
def Vp(L:br)(d:Option Nat)(g:FuncId)(id pos:Nat)(S:St)(os:List bA)(keep:cX)(k:cB):List V→Prop:=fun vs=>cL (L g vs []) (On L d id pos S os keep k)
@[simp] theorem agm{L:br}{d:Option Nat}{g:FuncId}{id pos:Nat}{S:St}{os:List bA}{keep:cX}{k:cB}{vs:List V} :
  Vp L d g id pos S os keep k vs=cL (L g vs []) (On L d id pos S os keep k):=rfl
@[simp high] theorem atf{L:br}{d:Option Nat}{g:FuncId}{args:List (Sh×Sh×bp)}{ids:List Nat}{id pos:Nat}{os:List bA}{keep:cX}{k:cB}{S:St} :
  dU L (⟨d,.own (.c (.fn g [])) args ids id pos,none⟩::os) keep k S=cL (kW S ids args) (Vp L d g id pos S os keep k):=by
 rw[ib];simp only[bA.run,VO.run,St.ev];cases kW S ids args with
 |none=>simp[cL]
 |some vs =>
  simp only[tq,agm];rcases L g vs []with _ | ⟨r,G⟩
  ·simp[cL]
  ·simp only[tq,agl]
   rcases jW id pos r with _ | ⟨v,_|cs⟩
   ·simp[cL]
   ·simp
   ·simp
def DC(L:br)(d:Option Nat)(id:Nat)(S:St)(os:List bA)(keep:cX)(k:cB):V×Option (List V)→Prop:=fun p=>match p with
 |(.bP i n ln,some cs)=>cL (bif i==id&&Nat.blt 0 cs.length&&Nat.blt 0 ln&&cs.all V.sc then some ({ S with ay:=S.ay++[aT.cells cs] }.put d (.da S.ay.length n ln)) else none) (dU L os keep k)
 |(.dX n,none)=>dU L os keep k ({ S with ay:=S.ay++[aT.cells []] }.put d (.da S.ay.length n 0))
 |_=>False
@[simp] theorem atg{L:br}{d:Option Nat}{id i n ln:Nat}{S:St}{os:List bA}{keep:cX}{k:cB}{cs:List V} :
  DC L d id S os keep k (.bP i n ln,some cs)=cL (bif i==id&&Nat.blt 0 cs.length&&Nat.blt 0 ln&&cs.all V.sc then some ({ S with ay:=S.ay++[aT.cells cs] }.put d (.da S.ay.length n ln)) else none) (dU L os keep k):=rfl
@[simp] theorem ath{L:br}{d:Option Nat}{id n:Nat}{S:St}{os:List bA}{keep:cX}{k:cB} :
  DC L d id S os keep k (.dX n,none)=dU L os keep k ({ S with ay:=S.ay++[aT.cells []] }.put d (.da S.ay.length n 0)):=rfl
def Oo(L:br)(d:Option Nat)(id:Nat)(S:St)(os:List bA)(keep:cX)(k:cB):V×List aT→Prop:=fun r=>cL (jW id 0 r.1) (DC L d id S os keep k)
@[simp] theorem agn{L:br}{d:Option Nat}{id:Nat}{S:St}{os:List bA}{keep:cX}{k:cB}{r:V}{G:List aT} :
  Oo L d id S os keep k (r,G)=cL (jW id 0 r) (DC L d id S os keep k):=rfl
def Vq(L:br)(d:Option Nat)(g:FuncId)(id:Nat)(S:St)(os:List bA)(keep:cX)(k:cB):List V→Prop:=fun vs=>cL (L g vs []) (Oo L d id S os keep k)
@[simp] theorem ago{L:br}{d:Option Nat}{g:FuncId}{id:Nat}{S:St}{os:List bA}{keep:cX}{k:cB}{vs:List V} :
  Vq L d g id S os keep k vs=cL (L g vs []) (Oo L d id S os keep k):=rfl
@[simp high] theorem ati{L:br}{d:Option Nat}{g:FuncId}{args:List (Sh×bp)}{id:Nat}{os:List bA}{keep:cX}{k:cB}{S:St} :
  dU L (⟨d,.qG (.c (.fn g [])) args id,none⟩::os) keep k S=cL (mC S args) (Vq L d g id S os keep k):=by
 rw[ib];simp only[bA.run,VO.run,St.ev];cases mC S args with
 |none=>simp[cL]
 |some vs =>
  simp only[tq,ago];rcases L g vs []with _ | ⟨r,G⟩
  ·simp[cL]
  ·simp only[tq,agn]
   rcases jW id 0 r with _ | ⟨v,o⟩
   ·simp[cL]
   ·rcases o with _|cs
    ·cases v<;>simp[cL,DC]
    ·cases v<;>simp[cL,DC]
     all_goals (split<;>simp_all)
def iQ(w:Bool)(o:Option V)(A B:Prop):Prop:=match o with
 |some (.bool b)=>bif b==w then A else B
 |some .undef=>B
 |_=>False
@[simp] theorem atj{b:Bool}{A B:Prop}:iQ true (some (.bool b)) A B=uB (some (.bool b)) A B:=by cases b<;>simp[iQ]
@[simp] theorem atk{b:Bool}{A B:Prop}:iQ false (some (.bool b)) A B=uB (some (.bool b)) B A:=by cases b<;>simp[iQ]
@[simp] theorem atl{w:Bool}{A B:Prop}:iQ w (some .undef) A B=B:=rfl
@[simp] theorem atm{w b:Bool}{x y:V}{A B:Prop}:iQ w (some (kO b x y)) A B=uB (some (.bool b)) (iQ w (some x) A B) (iQ w (some y) A B):=by cases b<;>simp
@[simp high] theorem atn{L:br}{d:Option Nat}{al:Bool}{f:bp}{args:List (Sh×bp)}{reg:List (Nat×Nat)}{g:Nat}{w:Bool}{os:List bA}{keep:cX}{k:cB}{S:St} :
  dU L (⟨d,.call al f args reg,some (g,w)⟩::os) keep k S=iQ w (look g S.env) (dU L (⟨d,.call al f args reg,none⟩::os) keep k S) (dU L os keep k (S.put d .undef)):=by
 rw[ib,ib];simp only[bA.run];rcases look g S.env with _|v
 ·simp[cL,iQ]
 ·cases v with
  |bool b=>simp only[iQ];cases b==w<;>simp
  |undef=>simp[iQ]
  |_=>simp[cL,iQ]
@[simp high] theorem ato{L:br}{d:Option Nat}{f:bp}{args:List (Sh×bp)}{g:Nat}{w:Bool}{os:List bA}{keep:cX}{k:cB}{S:St} :
  dU L (⟨d,.qE f args,some (g,w)⟩::os) keep k S=iQ w (look g S.env) (dU L (⟨d,.qE f args,none⟩::os) keep k S) (dU L os keep k (S.put d .undef)):=by
 rw[ib,ib];simp only[bA.run];rcases look g S.env with _|v
 ·simp[cL,iQ]
 ·cases v with
  |bool b=>simp only[iQ];cases b==w<;>simp
  |undef=>simp[iQ]
  |_=>simp[cL,iQ]
theorem agp{reg:List (Nat×Nat)}{cs:List V}:recv reg (.agg cs)=(.agg (cR reg 0 cs).1,(cR reg 0 cs).2):=rfl
theorem agq{reg:List (Nat×Nat)}{cs:List V}:recv reg (.tuple cs)=(.tuple (cR reg 0 cs).1,(cR reg 0 cs).2):=rfl
attribute [simp] agp agq
@[simp] theorem atp{reg:List (Nat×Nat)}{i:Nat} :
  cR reg i []=([],[]) ∧
  recv reg (.map i)=(strip (.map i),[]):=by and_intros<;>rfl
@[simp] theorem agr{i:Nat}:∀{vs:List V},cR [] i vs=(vs.map strip,[])
 |[]=>rfl
 |v::vs=>by
  simp only[cR,agr (i:=i+1) (vs:=vs)];cases v with
  |slice t n es=>cases t<;>rfl
  |_=>rfl
def Oq(o:Option Nat)(n:Nat)(es:List (List V))(r:List V×List (Nat×Nat)):List V×List (Nat×Nat):=match o with
 |some f=>(.slice (some f) n es::r.1,(f,es.length)::r.2)
 |none=>(.slice none n es::r.1,r.2)
@[simp] theorem atq{f n:Nat}{es:List (List V)}{r:List V×List (Nat×Nat)}:Oq (some f) n es r=(.slice (some f) n es::r.1,(f,es.length)::r.2):=rfl
@[simp] theorem atr{n:Nat}{es:List (List V)}{r:List V×List (Nat×Nat)}:Oq none n es r=(.slice none n es::r.1,r.2):=rfl
@[simp] theorem ats{reg:List (Nat×Nat)}{i n t:Nat}{es:List (List V)}{vs:List V}:cR reg i (.slice (some t) n es::vs)=Oq (look i reg) n es (cR reg (i+1) vs):=by
 simp only[cR];cases look i reg<;>rfl
@[simp] theorem att{reg:List (Nat×Nat)}{j:Nat}{us:List V}{k:IntKind}{n:Int}:cR reg j ((.int k n)::us)=(strip (.int k n)::(cR reg (j+1) us).1,(cR reg (j+1) us).2):=rfl
@[simp] theorem atu{reg:List (Nat×Nat)}{k:IntKind}{n:Int}:recv reg (.int k n)=(strip (.int k n),[]):=rfl
@[simp] theorem atv{reg:List (Nat×Nat)}{j:Nat}{us:List V}{b:Bool}:cR reg j ((.bool b)::us)=(strip (.bool b)::(cR reg (j+1) us).1,(cR reg (j+1) us).2):=rfl
@[simp] theorem atw{reg:List (Nat×Nat)}{b:Bool}:recv reg (.bool b)=(strip (.bool b),[]):=rfl
@[simp] theorem atx{reg:List (Nat×Nat)}{j:Nat}{us:List V}{s:List UInt8}:cR reg j ((.str s)::us)=(strip (.str s)::(cR reg (j+1) us).1,(cR reg (j+1) us).2):=rfl
@[simp] theorem aty{reg:List (Nat×Nat)}{s:List UInt8}:recv reg (.str s)=(strip (.str s),[]):=rfl
@[simp] theorem atz{reg:List (Nat×Nat)}{j:Nat}{us:List V} :
  cR reg j (.b9::us)=(strip .b9::(cR reg (j+1) us).1,(cR reg (j+1) us).2) ∧
  cR reg j (.fQ::us)=(strip .fQ::(cR reg (j+1) us).1,(cR reg (j+1) us).2) ∧
  cR reg j (.fR::us)=(strip .fR::(cR reg (j+1) us).1,(cR reg (j+1) us).2) ∧
  cR reg j (.fS::us)=(strip .fS::(cR reg (j+1) us).1,(cR reg (j+1) us).2) ∧
  cR reg j (.undef::us)=(strip .undef::(cR reg (j+1) us).1,(cR reg (j+1) us).2):=by and_intros<;>rfl
@[simp] theorem atA{reg:List (Nat×Nat)} :
  recv reg .b9=(strip .b9,[]) ∧
  recv reg .fQ=(strip .fQ,[]) ∧
  recv reg .fR=(strip .fR,[]) ∧
  recv reg .fS=(strip .fS,[]) ∧
  recv reg .undef=(strip .undef,[]):=by and_intros<;>rfl
@[simp] theorem atB{reg:List (Nat×Nat)}{j:Nat}{us:List V}{z:Nat}{es:List (List V)}:cR reg j ((.slice none z es)::us)=(strip (.slice none z es)::(cR reg (j+1) us).1,(cR reg (j+1) us).2):=rfl
@[simp] theorem atC{reg:List (Nat×Nat)}{z:Nat}{es:List (List V)}:recv reg (.slice none z es)=(strip (.slice none z es),[]):=rfl
@[simp] theorem atD{reg:List (Nat×Nat)}{j:Nat}{us:List V}{cs:List V}:cR reg j ((.agg cs)::us)=(strip (.agg cs)::(cR reg (j+1) us).1,(cR reg (j+1) us).2):=rfl
@[simp] theorem atE{reg:List (Nat×Nat)}{j:Nat}{us:List V}{vs:List V}:cR reg j ((.tuple vs)::us)=(strip (.tuple vs)::(cR reg (j+1) us).1,(cR reg (j+1) us).2):=rfl
@[simp] theorem atF{reg:List (Nat×Nat)}{j:Nat}{us:List V}{r:List V}{o:Nat}:cR reg j ((.eI r o)::us)=(strip (.eI r o)::(cR reg (j+1) us).1,(cR reg (j+1) us).2):=rfl
@[simp] theorem atG{reg:List (Nat×Nat)}{r:List V}{o:Nat}:recv reg (.eI r o)=(strip (.eI r o),[]):=rfl
@[simp] theorem atH{reg:List (Nat×Nat)}{j:Nat}{us:List V}{i o:Nat} :
  cR reg j ((.bG i o)::us)=(strip (.bG i o)::(cR reg (j+1) us).1,(cR reg (j+1) us).2) ∧
  cR reg j ((.bI i o)::us)=(strip (.bI i o)::(cR reg (j+1) us).1,(cR reg (j+1) us).2):=by and_intros<;>rfl
@[simp] theorem atI{reg:List (Nat×Nat)}{i o:Nat} :
  recv reg (.bG i o)=(strip (.bG i o),[]) ∧
  recv reg (.bI i o)=(strip (.bI i o),[]):=by and_intros<;>rfl
@[simp] theorem atJ{reg:List (Nat×Nat)}{j:Nat}{us:List V}{i o l:Nat}:cR reg j ((.bP i o l)::us)=(strip (.bP i o l)::(cR reg (j+1) us).1,(cR reg (j+1) us).2):=rfl
@[simp] theorem atK{reg:List (Nat×Nat)}{i o l:Nat}:recv reg (.bP i o l)=(strip (.bP i o l),[]):=rfl
@[simp] theorem atL{reg:List (Nat×Nat)}{j:Nat}{us:List V}{f:FuncId}{c:List V}:cR reg j ((.fn f c)::us)=(strip (.fn f c)::(cR reg (j+1) us).1,(cR reg (j+1) us).2):=rfl
@[simp] theorem atM{reg:List (Nat×Nat)}{f:FuncId}{c:List V}:recv reg (.fn f c)=(strip (.fn f c),[]):=rfl
@[simp] theorem atN{reg:List (Nat×Nat)}{j:Nat}{us:List V}{i:Nat}:cR reg j ((.map i)::us)=(strip (.map i)::(cR reg (j+1) us).1,(cR reg (j+1) us).2):=rfl
@[simp] theorem atO{reg:List (Nat×Nat)}{n t:Nat}{es:List (List V)}:recv reg (.slice (some t) n es)=match cR reg 0 [.slice (some t) n es] with
  |([u],ts)=>(u,ts)
  |_=>(.undef,[]):=rfl
theorem JV{α:Type}(g:α→Int):∀l:List α,kH [none] (l.map fun j=>[V.int .i64 (g j)])=some (l.map fun j=>[V.int .i64 (g j)])
 |[]=>rfl
 |a::l=>by simp[kH,my,el,JV g l]
theorem Gr{sz:Nat}:∀(cs:List V) (off n:Nat),sz=1→off+n≤cs.length→chunks sz cs off n=((cs.drop off).take n).map fun v=>[v]
 |cs,off,0,_,_=>by simp[chunks]
 |cs,off,n+1,h,hn=>by
  subst h;rw[chunks,Gr cs (off+1) n rfl (by omega),Iv (show off<cs.length by omega)]
  simp only[Ms,List.take_zero,nq]
@[simp] theorem atP{n:Nat}{f:Nat→Int}:kH [none] (chunks 1 (eP n f) 0 n)=some ((List.range n).map fun j=>[V.int .i64 (f j)]):=by
 rw[Gr _ _ _ rfl (by simp)]
 rw[tM,agb,eP,AV];exact JV f _
theorem Vs{n:Nat}:List.replicate n (V.int .i64 0)=eP n fun _=>0:=by
 rw[←Vk,rep]
@[simp] theorem atQ{n:Nat}:(List.replicate n [V.int .i64 0]).flatten=eP n fun _=>0:=by
 rw[←Vk,rep];simp
@[simp] theorem atS{x y:Nat} :
  V.jd x y .undef=.undef ∧
  V.jd x y .b9=.b9 ∧
  V.jd x y .fQ=.fQ ∧
  V.jd x y .fR=.fR ∧
  V.jd x y .fS=.fS:=by and_intros<;>rfl
@[simp] theorem atT{x:Nat} :
  V.forget x .undef=.undef ∧
  V.forget x .b9=.b9 ∧
  V.forget x .fQ=.fQ ∧
  V.forget x .fR=.fR ∧
  V.forget x .fS=.fS:=by and_intros<;>rfl
@[simp] theorem atU{k:IntKind}{n:Int}{x y:Nat}:V.jd x y (.int k n)=.int k n:=rfl
@[simp] theorem atV{k:IntKind}{n:Int}{x:Nat}:V.forget x (.int k n)=.int k n:=rfl
@[simp] theorem atW{b:Bool}{x y:Nat}:V.jd x y (.bool b)=.bool b:=rfl
@[simp] theorem atX{b:Bool}{x:Nat}:V.forget x (.bool b)=.bool b:=rfl
@[simp] theorem atY{s:List UInt8}{x y:Nat}:V.jd x y (.str s)=.str s:=rfl
@[simp] theorem atZ{s:List UInt8}{x:Nat}:V.forget x (.str s)=.str s:=rfl
@[simp] theorem at0{z:Nat}{es:List (List V)}{x y:Nat}:V.jd x y (.slice none z es)=.slice none z es:=rfl
@[simp] theorem at1{z:Nat}{es:List (List V)}{x:Nat}:V.forget x (.slice none z es)=.slice none z es:=rfl
@[simp] theorem at2{t z:Nat}{es:List (List V)}{x y:Nat}:V.jd x y (.slice (some t) z es:V)=.slice (some t) z es:=rfl
@[simp] theorem at3{t z:Nat}{es:List (List V)}{x:Nat}:V.forget x (.slice (some t) z es:V)=bif t==x then .slice none z es else .slice (some t) z es:=rfl
@[simp] theorem at4{cs:List V}{x y:Nat}:V.jd x y (.agg cs)=.agg cs:=rfl
@[simp] theorem at5{cs:List V}{x:Nat}:V.forget x (.agg cs)=.agg cs:=rfl
@[simp] theorem at6{vs:List V}{x y:Nat}:V.jd x y (.tuple vs)=.tuple vs:=rfl
@[simp] theorem at7{vs:List V}{x:Nat}:V.forget x (.tuple vs)=.tuple vs:=rfl
@[simp] theorem aum{r:List V}{o:Nat}{x y:Nat}:V.jd x y (.eI r o)=.eI r o:=rfl
@[simp] theorem aun{r:List V}{o:Nat}{x:Nat}:V.forget x (.eI r o)=.eI r o:=rfl
@[simp] theorem aua{i o:Nat}{x y:Nat} :
  V.jd x y (.bG i o)=.bG i o ∧
  V.jd x y (.bI i o)=.bI i o:=by and_intros<;>rfl
@[simp] theorem aub{i o:Nat}{x:Nat} :
  V.forget x (.bG i o)=.bG i o ∧
  V.forget x (.bI i o)=.bI i o:=by and_intros<;>rfl
@[simp] theorem auc{i o l:Nat}{x y:Nat}:V.jd x y (.bP i o l)=bif i==x then .bP y o l else .bP i o l:=rfl
@[simp] theorem aud{i o l:Nat}{x:Nat}:V.forget x (.bP i o l)=.bP i o l:=rfl
@[simp] theorem aue{f:FuncId}{c:List V}{x y:Nat}:V.jd x y (.fn f c)=.fn f c:=rfl
@[simp] theorem auf{f:FuncId}{c:List V}{x:Nat}:V.forget x (.fn f c)=.fn f c:=rfl
@[simp] theorem aug{i:Nat}{x y:Nat}:V.jd x y (.map i)=.map i:=rfl
@[simp] theorem auh{i:Nat}{x:Nat}:V.forget x (.map i)=.map i:=rfl
@[simp] theorem sn0{i s n:Nat}{d:Nat} :
  V.cA d (.da i s n)=false ∧
  V.dv d (.da i s n)=false ∧
  V.ch d (.da i s n)=false:=by and_intros<;>rfl
@[simp] theorem sn1{i s n:Nat} :
  V.cI (.da i s n)=true ∧
  V.plain (.da i s n)=false ∧
  V.iv (.da i s n)=false ∧
  V.iG (.da i s n)=false ∧
  V.lone (.da i s n)=false ∧
  V.cells (.da i s n)=[.da i s n] ∧
  gP (.da i s n)=.da i s n ∧
  strip (.da i s n)=.da i s n ∧
  V.iV (.da i s n)=.da i s n ∧
  V.kq (.da i s n)=.da i s n:=by and_intros<;>rfl
@[simp] theorem sn2{i s n:Nat}{x y:Nat}:V.jd x y (.da i s n)=.da i s n:=rfl
@[simp] theorem sn3{i s n:Nat}{x:Nat}:V.forget x (.da i s n)=.da i s n:=rfl
@[simp] theorem sn4{reg:List (Nat×Nat)}{j:Nat}{us:List V}{i s n:Nat}:cR reg j ((.da i s n)::us)=(strip (.da i s n)::(cR reg (j+1) us).1,(cR reg (j+1) us).2):=rfl
@[simp] theorem sn5{reg:List (Nat×Nat)}{i s n:Nat}:recv reg (.da i s n)=(strip (.da i s n),[]):=rfl
@[simp] theorem sn6{i s o n:Nat}{d:Nat} :
  V.cA d (.fm i s o n)=(i==d) ∧
  V.dv d (.fm i s o n)=(i==d) ∧
  V.ch d (.fm i s o n)=(i==d):=by and_intros<;>rfl
@[simp] theorem sn7{i s o n:Nat} :
  V.cI (.fm i s o n)=true ∧
  V.plain (.fm i s o n)=false ∧
  V.iv (.fm i s o n)=false ∧
  V.iG (.fm i s o n)=false ∧
  V.lone (.fm i s o n)=false ∧
  V.cells (.fm i s o n)=[.fm i s o n] ∧
  gP (.fm i s o n)=.fm i s o n ∧
  strip (.fm i s o n)=.fm i s o n ∧
  V.iV (.fm i s o n)=.fm i s o n ∧
  V.kq (.fm i s o n)=.fm i s o n:=by and_intros<;>rfl
@[simp] theorem sn8{i s o n:Nat}{x y:Nat}:V.jd x y (.fm i s o n)=.fm i s o n:=rfl
@[simp] theorem sn9{i s o n:Nat}{x:Nat}:V.forget x (.fm i s o n)=.fm i s o n:=rfl
@[simp] theorem aus{reg:List (Nat×Nat)}{j:Nat}{us:List V}{i s o n:Nat}:cR reg j ((.fm i s o n)::us)=(strip (.fm i s o n)::(cR reg (j+1) us).1,(cR reg (j+1) us).2):=rfl
@[simp] theorem aut{reg:List (Nat×Nat)}{i s o n:Nat}:recv reg (.fm i s o n)=(strip (.fm i s o n),[]):=rfl
@[simp] theorem auu{i s o n:Nat}{d:Nat} :
  V.cA d (.gX i s o n)=false ∧
  V.dv d (.gX i s o n)=false ∧
  V.ch d (.gX i s o n)=false:=by and_intros<;>rfl
@[simp] theorem auv{i s o n:Nat} :
  V.cI (.gX i s o n)=true ∧
  V.plain (.gX i s o n)=false ∧
  V.iv (.gX i s o n)=false ∧
  V.iG (.gX i s o n)=false ∧
  V.lone (.gX i s o n)=false ∧
  V.cells (.gX i s o n)=[.gX i s o n] ∧
  gP (.gX i s o n)=.gX i s o n ∧
  strip (.gX i s o n)=.gX i s o n ∧
  V.iV (.gX i s o n)=.gX i s o n ∧
  V.kq (.gX i s o n)=.gX i s o n:=by and_intros<;>rfl
@[simp] theorem auw{i s o n:Nat}{x y:Nat}:V.jd x y (.gX i s o n)=.gX i s o n:=rfl
@[simp] theorem auy{i s o n:Nat}{x:Nat}:V.forget x (.gX i s o n)=.gX i s o n:=rfl
@[simp] theorem auz{i n:Nat}:V.part (.da i 1 n)=some (i,0,n):=rfl
@[simp] theorem auA{i o n:Nat}:V.part (.gX i 1 o n)=some (i,o,n):=rfl
@[simp] theorem auB{G:List aT}{i o n:Nat}:Fa G (some (i,o,n))=match G[i]? with
  |some (.cells cs)=>bif Nat.ble (o+n) cs.length&&Nat.blt 0 n then some (G.set i (.cells (iF cs o (List.replicate n (.int .i64 0))))) else none
  |_=>none:=rfl
def dN(l:List Int):List V:=l.map fun n=>.int .i64 n
@[simp] theorem ags{l:List Int}:(dN l).length=l.length:=by simp[dN]
@[simp] theorem auC{l:List Int}{i:Nat}{v:Int}:(dN l).set i (.int .i64 v)=dN (l.set i v):=by simp[dN]
theorem lx{l:List Int}{i:Nat}(h:i<l.length):(dN l)[i]?=some (.int .i64 (nth l i)):=by simp[dN,dV h]
@[simp] theorem agt{l:List Int}{d:Nat}:(dN l).all (fun v => !v.cA d)=true:=by simp[dN,V.cA]
@[simp] theorem Vt{l:List Int}:(l.map fun n=>[V.int .i64 n]).flatten=dN l:=by
 induction l with
 |nil=>rfl
 |cons a l ih=>simp only[nq,sV,ih];rfl
@[simp] theorem Ot{l:List Int}{n:Nat}(h:n=l.length):kH [none] (chunks 1 (dN l) 0 n)=some (l.map fun n=>[V.int .i64 n]):=by
 subst h;rw[Gr _ _ _ rfl (by simp)]
 rw[tM,kG (by simp),dN,AV]
 exact JV (fun n=>n) l
@[simp] theorem auD{l m:List Int}:dN l++dN m=dN (l++m):=by simp[dN]
@[simp] theorem auE{l:List Int}{a:Int}:dN l++[V.int .i64 a]=dN (l++[a]):=by simp[dN]
def kp{α:Type}(o:Option α)(s:Nat)(r:List (Nat×α)):List (Nat×α):=match o with
 |some v=>(s,v)::r
 |none=>r
@[simp] theorem auF{α:Type}{v:α}{s:Nat}{r:List (Nat×α)}:kp (some v) s r=(s,v)::r:=rfl
@[simp] theorem auG{α:Type}{s:Nat}{r:List (Nat×α)}:kp none s r=r:=rfl
@[simp low] theorem auH{α:Type}{env:List (Nat×α)}{s:Nat}{l:List Nat}:ub env (s::l)=kp (look s env) s (ub env l):=by
 simp only[ub];cases look s env<;>rfl
@[simp low] theorem auI{α:Type}{env:List (Nat×α)}:ub env []=[]:=rfl
attribute [simp] A3 lW St.take St.wG nA bA.run VO.run St.ev pA St.put V.bin E9 St.keep vk vj zI zH mW py s7 el my
 jc.fits St.mU loadAt St.fits iF mC oN mB zF V.un IS St.jI qI tZ oM A5 St.nV gI.run St.rows St.ny St.qH St.rP St.share St.vh St.zD St.zE St.CM vi St.xw
@[simp] theorem agu{a b:Nat}:Nat.ble a b=decide (a≤b):=by
 by_cases h:a≤b
 ·simp[h,Nat.ble_eq]
 ·simp only[h,decide_false]
  exact Ij.2 (fun e=>h (iD e))
@[simp] theorem auJ{a b:Nat}:Nat.blt a b=decide (a<b):=by
 rw[Nat.blt,agu];rfl
attribute [simp] ER EP
theorem DD{G r:List aT}{a:aT}:(G++a::r)[G.length]?=some a:=by simp
theorem Vu{G r:List aT}{a b:aT}:(G++a::b::r)[G.length+1]?=some b:=by
 rw[u5 (by omega)];simp
def vU(S:St)(ids:List Nat)(rs sh:Sh):Option V→Option V
 |some (.bP id s n)=>S.A4 ids rs id s n
 |some (.fm id s off n)=>S.zG ids rs id s off n
 |some v=>oN sh v
 |none=>none
@[simp] theorem auK{S:St}{ids:List Nat}:kW S ids []=some []:=rfl
@[simp] theorem auL{S:St}{ids:List Nat}{rs sh:Sh}{x:bp}{xs:List (Sh×Sh×bp)}:kW S ids ((rs,sh,x)::xs)=match vU S ids rs sh (S.ev x),kW S ids xs with
  |some u,some us=>some (u::us)
  |_,_=>none:=by
 simp only[kW];rcases S.ev x with _|v
 ·rfl
 ·cases v<;>rfl
@[simp] theorem auM{S:St}{ids:List Nat}{rs sh:Sh}{id s n:Nat}:vU S ids rs sh (some (.bP id s n))=bif ids.contains id then (match S.qH rs (.bP id s n) with|some es=>some (V.slice none rs.length es)|none=>none) else none:=rfl
@[simp] theorem auN{S:St}{ids:List Nat}{rs sh:Sh}{f:FuncId}{c:List V}:vU S ids rs sh (some (.fn f c))=oN sh (.fn f c):=rfl
@[simp] theorem auO{S:St}{ids:List Nat}{rs sh:Sh}{id s off n:Nat}:vU S ids rs sh (some (.fm id s off n))=bif ids.contains id then (match look id S.aW with
  |some cs=>bif (s==rs.length)&&Nat.blt 0 rs.length&&Nat.ble (off*rs.length+n*rs.length) cs.length then (match kH rs (chunks rs.length cs (off*rs.length) n) with|some es=>some (V.slice none rs.length es)|none=>none) else none
  |none=>none) else none:=rfl
@[simp] theorem auP{S:St}{ids:List Nat}{rs sh:Sh}{k:IntKind}{n:Int}:vU S ids rs sh (some (.int k n))=oN sh (.int k n):=rfl
@[simp] theorem auQ{S:St}{ids:List Nat}{rs sh:Sh}{b:Bool}:vU S ids rs sh (some (.bool b))=oN sh (.bool b):=rfl
@[simp] theorem auR{S:St}{ids:List Nat}{rs sh:Sh}{s:List UInt8}:vU S ids rs sh (some (.str s))=oN sh (.str s):=rfl
@[simp] theorem auS{S:St}{ids:List Nat}{rs sh:Sh}:vU S ids rs sh (some .b9)=oN sh .b9:=rfl
@[simp] theorem auT{S:St}{ids:List Nat}{rs sh:Sh}{t:Option Nat}{n:Nat}{es:List (List V)}:vU S ids rs sh (some (.slice t n es))=oN sh (.slice t n es):=rfl
@[simp] theorem auU{S:St}{ids:List Nat}{rs sh:Sh}{n:Nat}:vU S ids rs sh (some (.dX n))=oN sh (.dX n):=rfl
@[simp] theorem auV{S:St}{ids:List Nat}{rs sh:Sh}{cs:List V}:vU S ids rs sh (some (.agg cs))=oN sh (.agg cs):=rfl
def Ou(L:br)(d:Option Nat)(S:St)(os:List bA)(keep:cX)(k:cB):V×List aT→Prop:=fun r=>r.1.pz=true∧dU L os keep k (S.put d r.1)
@[simp] theorem agv{L:br}{d:Option Nat}{S:St}{os:List bA}{keep:cX}{k:cB}{r:V}{G:List aT}:Ou L d S os keep k (r,G)=(r.pz=true∧dU L os keep k (S.put d r)):=rfl
def Vv(L:br)(d:Option Nat)(g:FuncId)(S:St)(os:List bA)(keep:cX)(k:cB):List V→Prop:=fun vs=>cL (L g vs []) (Ou L d S os keep k)
@[simp] theorem agw{L:br}{d:Option Nat}{g:FuncId}{S:St}{os:List bA}{keep:cX}{k:cB}{vs:List V}:Vv L d g S os keep k vs=cL (L g vs []) (Ou L d S os keep k):=rfl
@[simp high] theorem auW{L:br}{d:Option Nat}{g:FuncId}{args:List (Sh×Sh×bp)}{ids:List Nat}{os:List bA}{keep:cX}{k:cB}{S:St} :
  dU L (⟨d,.qF (.c (.fn g [])) args ids,none⟩::os) keep k S=cL (kW S ids args) (Vv L d g S os keep k):=by
 rw[ib];simp only[bA.run,VO.run,St.ev];cases kW S ids args with
 |none=>simp[cL]
 |some vs =>
  simp only[tq,agw];rcases L g vs []with _ | ⟨r,G⟩
  ·simp[cL]
  ·simp only[tq,agv]
   cases r.pz<;>simp[cL]
@[simp high] theorem auX{L:br}{d:Option Nat}{f:bp}{args:List (Sh×Sh×bp)}{ids:List Nat}{g:Nat}{w:Bool}{os:List bA}{keep:cX}{k:cB}{S:St} :
  dU L (⟨d,.qF f args ids,some (g,w)⟩::os) keep k S=iQ w (look g S.env) (dU L (⟨d,.qF f args ids,none⟩::os) keep k S) (dU L os keep k (S.put d .undef)):=by
 rw[ib,ib];simp only[bA.run];rcases look g S.env with _|v
 ·simp[cL,iQ]
 ·cases v with
  |bool b=>simp only[iQ];cases b==w<;>simp
  |undef=>simp[iQ]
  |_=>simp[cL,iQ]
@[simp] theorem auY{k:IntKind}{n:Int}:V.pz (.int k n)=true:=rfl
@[simp] theorem auZ{b:Bool}:V.pz (.bool b)=true:=rfl
@[simp] theorem au0{s:List UInt8}:V.pz (.str s)=true:=rfl
attribute [simp] V.pz V.sc
end Go.Vm
