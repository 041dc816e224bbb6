/- The value machine, 22: weakest preconditions of the evaluator. -/
import Derived.Test.YtmppfkgfnnebeaaGreatDoorVmI
namespace Go.Vm
set_option linter.all false
def cQ{α:Type}(o:Option α)(P:α→Prop):Prop:=∃a,o=some a∧P a
@[congr] theorem awW{α:Type}{o o':Option α}{P:α→Prop}(h:o=o'):cQ o P=cQ o' P:=by rw[h]
@[simp] theorem uD{α:Type}{a:α}{P:α→Prop}:cQ (some a) P=P a:=by simp[cQ]
theorem awX{α:Type}{o:Option α}{a:α}{P:α→Prop}(h:o=some a)(hp:P a):cQ o P:=⟨a,h,hp⟩
def vT(o:Option V)(A B:Prop):Prop:=∃t,o=some (.bool t)∧(bif t then A else B)
@[congr] theorem awY{o o':Option V}{A B:Prop}(h:o=o'):vT o A B=vT o' A B:=by rw[h]
@[simp] theorem awZ{A B:Prop}:vT (some (.bool true)) A B=A:=by simp[vT]
@[simp] theorem aw0{A B:Prop}:vT (some (.bool false)) A B=B:=by simp[vT]
theorem bT{p:Prop}{dp:Decidable p}{A B:Prop}(ha:p→A)(hb:¬p→B):vT (some (.bool (decide p))) A B:=by
 by_cases h:p
 ·simpa [h] using ha h
 ·simpa [h] using hb h
theorem gY{t:Bool}{A B:Prop}(ha:t=true→A)(hb:t=false→B):vT (some (.bool t)) A B:=by
 cases t
 ·simpa using hb rfl
 ·simpa using ha rfl
abbrev cE:=pN→St→Prop
def go(L:bD)(c:VC)(S:St)(k:cE):Prop:=∃n e T,VC.run L n c S=some (e,T)∧k e T
@[congr] theorem go_congr{L:bD}{c:VC}{S S':St}{k:cE}(h:S=S'):go L c S k=go L c S' k:=by rw[h]
theorem yH{L:bD}{n m:Nat}(h:n≤m){c:VC}{S:St}{x:pN×St}(hr:VC.run L n c S=some x):VC.run L m c S=some x :=
 BC (fun _ _ _ _ h=>h) h hr
theorem go.mono{L:bD}{c:VC}{S:St}{k k':cE}(h:go L c S k)(hk:∀e T,k e T→k' e T):go L c S k':=by
 obtain⟨n,e,T,h1,h2⟩:=h;exact⟨n,e,T,h1,hk _ _ h2⟩
def sq(L:bD)(b:VC)(k:cE):cE:=fun e T=>match e with
 |.normal=>go L b T k
 |.exit i=>k (.exit i) T
 |.ret=>k .ret T
@[simp] theorem aw1{L:bD}{b:VC}{k:cE}{T:St}:sq L b k .normal T=go L b T k:=rfl
@[simp] theorem aw2{L:bD}{b:VC}{k:cE}{i:Nat}{T:St}:sq L b k (.exit i) T=k (.exit i) T:=rfl
@[simp] theorem aw3{L:bD}{b:VC}{k:cE}{T:St}:sq L b k .ret T=k .ret T:=rfl
def bk(id:Nat)(k:cE):cE:=fun e T=>match e with
 |.normal=>k .normal T
 |.exit i=>bif i==id then k .normal T else k (.exit i) T
 |.ret=>k .ret T
@[simp] theorem aw4{id:Nat}{k:cE}{T:St}:bk id k .normal T=k .normal T:=rfl
def Ij(b:Bool)(k:cE)(i:Nat)(T:St):Prop:=bif b then k .normal T else k (.exit i) T
@[congr] theorem aw5{b b':Bool}{k:cE}{i:Nat}{T:St}(h:b=b'):Ij b k i T=Ij b' k i T:=by rw[h]
@[simp] theorem aw6{k:cE}{i:Nat}{T:St}:Ij true k i T=k .normal T:=rfl
@[simp] theorem aw7{k:cE}{i:Nat}{T:St}:Ij false k i T=k (.exit i) T:=rfl
@[simp] theorem aw8{id:Nat}{k:cE}{i:Nat}{T:St}:bk id k (.exit i) T=Ij (i==id) k i T:=rfl
@[simp] theorem aw9{id:Nat}{k:cE}{T:St}:bk id k .ret T=k .ret T:=rfl
def eb(L:bD)(os:List bH)(keep:df)(k:cE):St→Prop:=fun S=>∃T,gW L os S=some T∧k .normal (T.keep keep)
@[congr] theorem axa{L:bD}{os:List bH}{keep:df}{k:cE}{S S':St}(h:S=S'):eb L os keep k S=eb L os keep k S':=by rw[h]
@[simp] theorem axb{L:bD}{keep:df}{k:cE}{S:St}:eb L [] keep k S=k .normal (S.keep keep):=by simp[eb,gW]
@[simp] theorem axc{L:bD}{d:Option Nat}{op:VO}{os:List bH}{keep:df}{k:cE}{S:St}:eb L (⟨d,op,none⟩::os) keep k S=cQ (op.run L d S) (eb L os keep k):=by
 unfold eb cQ;simp only[gW,bH.run];cases op.run L d S<;>simp
theorem iU{L:bD}{o:bH}{os:List bH}{keep:df}{k:cE}{S:St}:eb L (o::os) keep k S=cQ (o.run L S) (eb L os keep k):=by
 unfold eb cQ;simp only[gW];cases o.run L S<;>simp
def lz{α:Type}(c:Bool)(a b:α):α:=bif c then a else b
@[congr] theorem axd{α:Type}{c c':Bool}{a a' b b':α}(hc:c=c')(ha:c'=true→a=a')(hb:c'=false→b=b'):lz c a b=lz c' a' b':=by
 subst hc;cases c
 ·exact hb rfl
 ·exact ha rfl
@[congr] theorem axe{α:Type}{p q:Prop}{dp:Decidable p}[dq:Decidable q]{a a' b b':α}(hc:p=q)(ha:q→a=a')(hb:¬q→b=b'):@lz α (@decide p dp) a b=lz (decide q) a' b':=by
 subst hc;by_cases h:p
 ·simp[lz,h,ha h]
 ·simp[lz,h,hb h]
theorem lX{a b:Int}:(a==b)=decide (a=b):=by by_cases h:a=b<;>simp[h]
theorem lY{a b:Int}:(a != b) = !decide (a=b):=by by_cases h:a=b<;>simp[h]
theorem lZ{α:Type}{p:Prop}{dp:Decidable p}{a b:α}(h:p):(bif decide p then a else b)=a:=by simp[h]
@[simp] theorem axf{k:Int}:decide (k≤(lim:Int))=decide (k≤4294967296):=rfl
@[simp] theorem axg{k:Nat}:decide (k≤lim)=decide (k≤4294967296):=rfl
theorem l7{α:Type}{p q:Prop}{dp:Decidable p}{dq:Decidable q}{a b:α}(h:p∧q):(bif decide p&&decide q then a else b)=a:=by simp[h.1,h.2]
@[simp] theorem axh{α:Type}{a b:α}:lz true a b=a:=rfl
@[simp] theorem axi{α:Type}{a b:α}:lz false a b=b:=rfl
@[simp] theorem axj{α:Type}{c:Bool}{a b:α}:lz (!c) a b=lz c b a:=by cases c<;>rfl
@[simp] theorem axk{α:Type}{c:Bool}{a b:α}:lz c (some a) (some b)=some (lz c a b):=by cases c<;>rfl
@[simp] theorem axl{c a b:Bool}:lz c (V.bool a) (V.bool b)=V.bool (bif c then a else b):=by cases c<;>rfl
def jZ(o:Option V)(w:Bool)(x:Option V):Option V :=
 match o with
 |some (.bool b)=>bif b==w then x else some .undef
 |some .undef=>some .undef
 |_=>none
@[simp] theorem axm{b:Bool}{x:Option V}:jZ (some (.bool b)) true x=lz b x (some .undef):=by cases b<;>rfl
@[simp] theorem axn{b:Bool}{x:Option V}:jZ (some (.bool b)) false x=lz b (some .undef) x:=by cases b<;>rfl
@[simp] theorem axo{w:Bool}{x:Option V}:jZ (some .undef) w x=some .undef:=rfl
@[simp] theorem axp{c b w:Bool}{v:V}{x:Option V}:jZ (some (lz c (.bool b) v)) w x=lz c (jZ (some (.bool b)) w x) (jZ (some v) w x):=by cases c<;>rfl
@[simp] theorem axq{c b w:Bool}{v:V}{x:Option V}:jZ (some (lz c v (.bool b))) w x=lz c (jZ (some v) w x) (jZ (some (.bool b)) w x):=by cases c<;>rfl
def zZ(t:Option V)(x y:Option V):Option V:=match t with
 |some (.bool b)=>lz b x y
 |_=>none
@[simp] theorem axr{b:Bool}{x y:Option V}:zZ (some (.bool b)) x y=lz b x y:=rfl
def kW(L:bD)(d:Nat)(S:St)(os:List bH)(keep:df)(k:cE):V→Prop:=fun v=>eb L os keep k (S.put (some d) v)
@[simp] theorem axs{L:bD}{d:Nat}{S:St}{os:List bH}{keep:df}{k:cE}{v:V}:kW L d S os keep k v=eb L os keep k { S with env:=(d,v)::S.env }:=rfl
theorem pq{L:bD}{d g:Nat}{w:Bool}{op:VO}{x:Option V}{S:St}{os:List bH}{keep:df}{k:cE}(hrun:op.run L (some d) S=x.map (S.put (some d))) :
  cQ (bH.run L ⟨some d,op,some (g,w)⟩ S) (eb L os keep k)=cQ (jZ (look g S.env) w x) (kW L d S os keep k):=by
 unfold bH.run jZ;simp only;cases look g S.env with
 |none=>simp[cQ]
 |some v =>
  cases v with
  |bool b =>
   simp only[hrun];cases b==w with
   |true=>cases x<;>simp[cQ,kW]
   |false=>simp[cQ,kW]
  |undef=>simp[cQ,kW]
  |_=>simp[cQ]
@[simp high] theorem axt{L:bD}{d:Nat}{c a b:bw}{os:List bH}{keep:df}{k:cE}{S:St} :
  eb L (⟨some d,.pick c a b,none⟩::os) keep k S=cQ (zZ (S.ev c) (S.ev a) (S.ev b)) (kW L d S os keep k):=by
 rw[iU];simp only[bH.run,VO.run];rcases S.ev c with _|v
 ·simp[cQ,zZ]
 ·cases v with
  |bool t =>
   cases t
   ·simp only[zZ,lz,eD]
    cases S.ev b<;>simp[cQ,kW]
   ·simp only[zZ,lz,bG]
    cases S.ev a<;>simp[cQ,kW]
  |_=>simp[cQ,zZ]
@[simp] theorem axu{L:bD}{d g:Nat}{w:Bool}{x:bw}{os:List bH}{keep:df}{k:cE}{S:St} :
  eb L (⟨some d,.mv x,some (g,w)⟩::os) keep k S=cQ (jZ (look g S.env) w (S.ev x)) (kW L d S os keep k):=by
 rw[iU];refine pq ?_;simp only[VO.run]
 repeat' split
 all_goals (first|rfl|simp_all[St.put])
@[simp] theorem axv{L:bD}{d g:Nat}{w:Bool}{c a b:bw}{os:List bH}{keep:df}{k:cE}{S:St} :
  eb L (⟨some d,.pick c a b,some (g,w)⟩::os) keep k S=cQ (jZ (look g S.env) w (zZ (S.ev c) (S.ev a) (S.ev b))) (kW L d S os keep k):=by
 rw[iU];refine pq ?_;simp only[VO.run];rcases S.ev c with _|v
 ·rfl
 ·cases v with
  |bool t =>
   cases t
   ·simp only[zZ,lz,eD]
    cases S.ev b<;>rfl
   ·simp only[zZ,lz,bG]
    cases S.ev a<;>rfl
  |_=>rfl
@[simp] theorem axw{L:bD}{d g:Nat}{w:Bool}{z:List V}{ps:List (Nat×Nat×bw)}{os:List bH}{keep:df}{k:cE}{S:St} :
  eb L (⟨some d,.build z ps,some (g,w)⟩::os) keep k S=cQ (jZ (look g S.env) w (match sn S ps z with|some cs=>some (.agg cs)|none=>none)) (kW L d S os keep k):=by
 rw[iU];refine pq ?_;simp only[VO.run]
 repeat' split
 all_goals (first|rfl|simp_all[St.put])
@[simp] theorem axx{L:bD}{d g:Nat}{w:Bool}{r:jC}{z:Option Nat}{p:bw}{os:List bH}{keep:df}{k:cE}{S:St} :
  eb L (⟨some d,.load r z p,some (g,w)⟩::os) keep k S=cQ (jZ (look g S.env) w (match S.ev p with|some v=>bif r.fits v then (match S.nJ v with|some (cs,off)=>(loadAt z cs off).map (tm r)|none=>none) else none|none=>none)) (kW L d S os keep k):=by
 rw[iU];refine pq ?_;simp only[VO.run];rcases S.ev p with _|v
 ·rfl
 ·simp only
  cases r.fits v with
  |false=>rfl
  |true =>
   rcases S.nJ v with _ | ⟨cs,off⟩
   ·rfl
   ·simp only[bG]
    rcases loadAt z cs off with _|u<;>rfl
@[simp] theorem axy{L:bD}{d g:Nat}{w:Bool}{x:bw}{os:List bH}{keep:df}{k:cE}{S:St} :
  eb L (⟨some d,.uf x,some (g,w)⟩::os) keep k S=cQ (jZ (look g S.env) w (match S.ev x with|some (.bJ i o)=>some (.bJ i o)|some (.bm i o)=>some (.bm i o)|some (.eP r o)=>some (.eP r o)|_=>none)) (kW L d S os keep k):=by
 rw[iU];refine pq ?_;simp only[VO.run]
 repeat' split
 all_goals (first|rfl|simp_all[St.put])
@[simp] theorem axz{L:bD}{d g:Nat}{w:Bool}{o:BinOp}{x y:bw}{os:List bH}{keep:df}{k:cE}{S:St} :
  eb L (⟨some d,.bin o x y,some (g,w)⟩::os) keep k S=cQ (jZ (look g S.env) w (match S.ev x,S.ev y with|some a,some b=>V.bin o a b|_,_=>none)) (kW L d S os keep k):=by
 rw[iU];refine pq ?_;simp only[VO.run]
 repeat' split
 all_goals (first|rfl|simp_all[St.put])
@[simp] theorem axA{L:bD}{d g:Nat}{w:Bool}{n:Bool}{x y:bw}{os:List bH}{keep:df}{k:cE}{S:St} :
  eb L (⟨some d,.beq n x y,some (g,w)⟩::os) keep k S=cQ (jZ (look g S.env) w (match S.ev x,S.ev y with|some (.bool a),some (.bool b)=>some (.bool (bif n then a != b else a==b))|_,_=>none)) (kW L d S os keep k):=by
 rw[iU];refine pq ?_;simp only[VO.run]
 repeat' split
 all_goals (first|rfl|simp_all[St.put])
@[simp] theorem axB{L:bD}{d g:Nat}{w:Bool}{n:Bool}{ks:List Nat}{x y:bw}{os:List bH}{keep:df}{k:cE}{S:St} :
  eb L (⟨some d,.iE n ks x y,some (g,w)⟩::os) keep k S=cQ (jZ (look g S.env) w (match S.ev x,S.ev y with|some a,some b=>V.iE n ks a b|_,_=>none)) (kW L d S os keep k):=by
 rw[iU];refine pq ?_;simp only[VO.run]
 repeat' split
 all_goals (first|rfl|simp_all[St.put])
@[simp] theorem axC{L:bD}{d g:Nat}{w:Bool}{o:UnOp}{x:bw}{os:List bH}{keep:df}{k:cE}{S:St} :
  eb L (⟨some d,.un o x,some (g,w)⟩::os) keep k S=cQ (jZ (look g S.env) w (match S.ev x with|some a=>V.un o a|none=>none)) (kW L d S os keep k):=by
 rw[iU];refine pq ?_;simp only[VO.run]
 repeat' split
 all_goals (first|rfl|simp_all[St.put])
@[simp] theorem axD{L:bD}{d g:Nat}{w:Bool}{kk:IntKind}{x:bw}{os:List bH}{keep:df}{k:cE}{S:St} :
  eb L (⟨some d,.conv kk x,some (g,w)⟩::os) keep k S=cQ (jZ (look g S.env) w (match S.ev x with|some (.int _ n)=>some (.int kk (kk.wrap n))|_=>none)) (kW L d S os keep k):=by
 rw[iU];refine pq ?_;simp only[VO.run]
 repeat' split
 all_goals (first|rfl|simp_all[St.put])
@[simp] theorem axE{L:bD}{d g:Nat}{w:Bool}{n:Nat}{x:bw}{os:List bH}{keep:df}{k:cE}{S:St} :
  eb L (⟨some d,.ti n x,some (g,w)⟩::os) keep k S=cQ (jZ (look g S.env) w (match S.ev x with|some (.bJ i o)=>some (.bJ i (o+n))|some (.bm i o)=>some (.bm i (o+n))|some (.eP r o)=>some (.eP r (o+n))|_=>none)) (kW L d S os keep k):=by
 rw[iU];refine pq ?_;simp only[VO.run]
 repeat' split
 all_goals (first|rfl|simp_all[St.put])
@[simp] theorem axF{L:bD}{d g:Nat}{w:Bool}{x:bw}{os:List bH}{keep:df}{k:cE}{S:St} :
  eb L (⟨some d,.len x,some (g,w)⟩::os) keep k S=cQ (jZ (look g S.env) w (match S.ev x with|some .cb=>some (.int .i64 0)|some (.dY _)=>some (.int .i64 0)|some (.fG _)=>some (.int .i64 0)|some (.slice _ _ es)=>some (.int .i64 es.length)|some (.bR _ _ n)=>some (.int .i64 n)|some (.c5 _ _ n)=>some (.int .i64 n)|_=>none)) (kW L d S os keep k):=by
 rw[iU];refine pq ?_;simp only[VO.run]
 repeat' split
 all_goals (first|rfl|simp_all[St.put])
@[simp] theorem axG{L:bD}{d g:Nat}{w:Bool}{x:bw}{os:List bH}{keep:df}{k:cE}{S:St} :
  eb L (⟨some d,.vj x,some (g,w)⟩::os) keep k S=cQ (jZ (look g S.env) w (match S.ev x with|some (.str s)=>some (.int .i64 s.length)|_=>none)) (kW L d S os keep k):=by
 rw[iU];refine pq ?_;simp only[VO.run]
 repeat' split
 all_goals (first|rfl|simp_all[St.put])
@[simp] theorem axH{L:bD}{d g:Nat}{w:Bool}{x:bw}{i:Nat}{os:List bH}{keep:df}{k:cE}{S:St} :
  eb L (⟨some d,.ext x i,some (g,w)⟩::os) keep k S=cQ (jZ (look g S.env) w (match S.ev x with|some (.tuple vs)=>vs[i]? | _=>none)) (kW L d S os keep k):=by
 rw[iU];refine pq ?_;simp only[VO.run]
 repeat' split
 all_goals (first|rfl|simp_all[St.put])
@[simp] theorem axI{L:bD}{d g:Nat}{w:Bool}{n:Nat}{z:Option Nat}{x:bw}{os:List bH}{keep:df}{k:cE}{S:St} :
  eb L (⟨some d,.field n z x,some (g,w)⟩::os) keep k S=cQ (jZ (look g S.env) w (match S.ev x with|some (.agg cs)=>loadAt z cs n|_=>none)) (kW L d S os keep k):=by
 rw[iU];refine pq ?_;simp only[VO.run]
 repeat' split
 all_goals (first|rfl|simp_all[St.put])
@[simp] theorem axJ{L:bD}{d g:Nat}{w:Bool}{m:Bool}{x y:bw}{os:List bH}{keep:df}{k:cE}{S:St} :
  eb L (⟨some d,.mm m x y,some (g,w)⟩::os) keep k S=cQ (jZ (look g S.env) w (match S.ev x,S.ev y with|some (.int k a),some (.int _ b)=>some (.int k (bif m then max a b else min a b))|_,_=>none)) (kW L d S os keep k):=by
 rw[iU];refine pq ?_;simp only[VO.run];rcases S.ev x with _|a
 ·rfl
 ·rcases S.ev y with _|b
  ·cases a<;>rfl
  ·cases a<;>cases b<;>rfl
@[simp] theorem axK{L:bD}{d g:Nat}{w:Bool}{m:Bool}{x y z:bw}{os:List bH}{keep:df}{k:cE}{S:St} :
  eb L (⟨some d,.vl m x y z,some (g,w)⟩::os) keep k S=cQ (jZ (look g S.env) w (match S.ev x,S.ev y,S.ev z with|some (.int k a),some (.int _ b),some (.int _ c)=>some (.int k (bif m then max (max a b) c else min (min a b) c))|_,_,_=>none)) (kW L d S os keep k):=by
 rw[iU];refine pq ?_;simp only[VO.run];rcases S.ev x with _|a
 ·rfl
 ·rcases S.ev y with _|b
  ·cases a<;>rfl
  ·rcases S.ev z with _|c
   ·cases a<;>cases b<;>rfl
   ·cases a<;>cases b<;>cases c<;>rfl
@[simp] theorem axL{L:bD}{d g:Nat}{w:Bool}{n z:Nat}{a:Bool}{x i:bw}{os:List bH}{keep:df}{k:cE}{S:St} :
  eb L (⟨some d,.idx n z a x i,some (g,w)⟩::os) keep k S=cQ (jZ (look g S.env) w (match S.ev x,S.ev i with|some (.agg cs),some (.int _ k)=>bif decide (0≤k)&&decide (k<n) then loadAt (bif a then some z else none) cs (k.toNat*z) else none|_,_=>none)) (kW L d S os keep k):=by
 rw[iU];refine pq ?_;simp only[VO.run];rcases S.ev x with _|v
 ·rfl
 ·rcases S.ev i with _|j
  ·cases v<;>rfl
  ·cases v with
   |agg cs =>
    cases j with
    |int kk m =>
     simp only;cases (decide (0≤m)&&decide (m<n)) with
     |false=>rfl
     |true =>
      simp only[bG];rcases loadAt (bif a then some z else none) cs (m.toNat*z) with _|u<;>rfl
    |_=>rfl
   |_=>cases j<;>rfl
@[simp] theorem axM{L:bD}{d g:Nat}{w:Bool}{n:Nat}{x i:bw}{os:List bH}{keep:df}{k:cE}{S:St} :
  eb L (⟨some d,.ov none n x i,some (g,w)⟩::os) keep k S=cQ (jZ (look g S.env) w (match S.ev x,S.ev i with
   |some (.slice _ m es),some (.int _ k)=>bif decide (0≤k)&&(m==n) then (match es[k.toNat]? with|some r=>some (.eP r 0)|none=>none) else none
   |some (.bR id off ln),some (.int _ k)=>bif decide (0≤k)&&decide (k<ln)&&(off==n) then some (.bJ id (k.toNat*n)) else none
   |some (.c5 id off ln),some (.int _ k)=>bif decide (0≤k)&&decide (k<ln)&&(off==n) then some (.bm id (k.toNat*n)) else none
   |_,_=>none)) (kW L d S os keep k):=by
 rw[iU];refine pq ?_;simp only[VO.run];rcases S.ev x with _|v
 ·rfl
 ·rcases S.ev i with _|j
  ·cases v<;>rfl
  ·cases v with
   |slice t m es =>
    cases j with
    |int kk q =>
     simp only;cases (decide (0≤q)&&(m==n)) with
     |false=>rfl
     |true =>
      simp only[bG];rcases es[q.toNat]? with _|u<;>rfl
    |_=>rfl
   |bR id off ln =>
    cases j with
    |int kk q =>
     simp only;cases (decide (0≤q)&&decide (q<ln)&&(off==n)) with
     |false=>rfl
     |true=>rfl
    |_=>rfl
   |c5 id off ln =>
    cases j with
    |int kk q =>
     simp only;cases (decide (0≤q)&&decide (q<ln)&&(off==n)) with
     |false=>rfl
     |true=>rfl
    |_=>rfl
   |_=>cases j<;>rfl
def nth{α:Type}[Inhabited α](l:List α)(i:Nat):α:=l.getD i default
theorem bf{α:Type}[Inhabited α]{l:List α}{i:Nat}(h:i<l.length):l[i]?=some (nth l i):=by
 simp[nth,List.getD,h]
theorem ei{l:List Int}{i:Nat}(h:i<l.length):l[i]?=some (nth l i):=bf h
def lk{α:Type}(b:Bool)(v:α)(s:Nat)(r:List (Nat×α)):Option α:=bif b then some v else look s r
@[simp] theorem axN{α:Type}{s k:Nat}{v:α}{r:List (Nat×α)}:look s ((k,v)::r)=lk (k==s) v s r:=rfl
@[simp] theorem axO{α:Type}{s:Nat}:look s ([]:List (Nat×α))=none:=rfl
@[simp] theorem axP{α:Type}{s:Nat}{v:α}{r:List (Nat×α)}:lk true v s r=some v:=rfl
@[simp] theorem axQ{α:Type}{s:Nat}{v:α}{r:List (Nat×α)}:lk false v s r=look s r:=rfl
def xn{α:Type}(d:Nat)(l:List (Nat×α)):List (Nat×α):=l.filter fun p => !(p.1==d)
def LN{α:Type}(b:Bool)(k:Nat)(v:α)(r:List (Nat×α)):List (Nat×α):=bif b then r else (k,v)::r
@[simp] theorem axR{α:Type}{k:Nat}{v:α}{r:List (Nat×α)}:LN true k v r=r:=rfl
@[simp] theorem axS{α:Type}{k:Nat}{v:α}{r:List (Nat×α)}:LN false k v r=(k,v)::r:=rfl
@[simp] theorem axT{α:Type}{d:Nat}:xn d ([]:List (Nat×α))=[]:=rfl
@[simp] theorem axU{α:Type}{d k:Nat}{v:α}{r:List (Nat×α)}:xn d ((k,v)::r)=LN (k==d) k v (xn d r):=by
 unfold xn LN;cases h:k==d<;>simp[List.filter,h]
@[simp] theorem axV{α:Type}{d:Nat}{l:List (Nat×α)}:(l.filter fun p => !(p.1==d))=xn d l:=rfl
@[simp] theorem axW{S:St}:S.clean []=some S:=rfl
@[simp] theorem axX{S:St}{d:Nat}{ds:List Nat}:S.clean (d::ds)=bif ((xn d S.env).all fun p => !p.2.cq d)&&((xn d S.aW).all fun p=>p.2.all fun v => !v.cA d) then
  St.clean { env:=xn d S.env,aW:=xn d S.aW,bj:=xn d S.bj,aA:=S.aA } ds else none:=rfl
theorem Ik{α β:Type}{a:α}{b:β}{k:α→β→Prop}:(∃e T,(a=e∧b=T)∧k e T)↔k a b :=
 ⟨fun⟨_,_,⟨h,h'⟩,hk⟩=>by subst h;subst h';exact hk,fun h=>⟨_,_,⟨rfl,rfl⟩,h⟩⟩
def Yd(L:bD)(ids:List Nat)(os:List bH)(keep:df)(k:cE):St→Prop:=fun S=>cQ (S.clean ids) (eb L os keep k)
@[simp] theorem akv{L:bD}{ids:List Nat}{os:List bH}{keep:df}{k:cE}{S:St}:Yd L ids os keep k S=cQ (S.clean ids) (eb L os keep k):=rfl
@[simp] theorem axY{L:bD}{gh:List gP}{S:St}{k:cE}:go L (.Cu gh) S k=cQ (oz gh S) (k .ret):=by
 refine propext ⟨?_,?_⟩
 ·rintro⟨n,e,T,h,hk⟩
  simp only[VC.run]at h;split at h
  ·rename_i S' h1;cases h;exact⟨_,h1,hk⟩
  ·cases h
 ·rintro⟨S',h1,hk⟩
  exact⟨0,_,_,by simp only[VC.run,h1],hk⟩
@[simp] theorem axZ{L:bD}{S:St}{k:cE}:go L .dead S k=False:=by simp[go,VC.run,Ik]
@[simp] theorem go_skip{L:bD}{S:St}{k:cE}:go L .skip S k=k .normal S:=by simp[go,VC.run,Ik]
@[simp] theorem ax0{L:bD}{S:St}{k:cE}{i:Nat}:go L (.exit i) S k=k (.exit i) S:=by simp[go,VC.run,Ik]
@[simp] theorem go_ret{L:bD}{S:St}{k:cE}:go L .ret S k=k .ret S:=by simp[go,VC.run,Ik]
@[simp] theorem go_region{L:bD}{gh:List gP}{ids:List Nat}{os:List bH}{keep:df}{S:St}{k:cE} :
  go L (.region gh ids os keep) S k=cQ (oz gh S) (Yd L ids os keep k):=by
 unfold go cQ;simp only[VC.run,akv];cases oz gh S with
 |none=>simp
 |some S1 =>
  simp only[Option.some.injEq,exists_eq_left',cQ];cases S1.clean ids with
  |none=>simp
  |some S2 =>
   simp only[Option.some.injEq,exists_eq_left',eb];cases gW L os S2 with
   |none=>simp
   |some S3=>simp[Ik]
@[simp] theorem ax1{L:bD}{a b:VC}{S:St}{k:cE}:go L (.seq a b) S k=go L a S (sq L b k):=by
 refine propext ⟨?_,?_⟩
 ·rintro⟨n,e,T,h,hk⟩
  simp only[VC.run]at h;split at h
  ·rename_i S' h1;exact⟨n,_,_,h1,n,_,_,h,hk⟩
  ·rename_i i S' h1;cases h;exact⟨n,_,_,h1,hk⟩
  ·rename_i S' h1;cases h;exact⟨n,_,_,h1,hk⟩
  ·cases h
 ·rintro⟨n,e,T,h,hk⟩
  cases e with
  |normal =>
   obtain⟨m,e,T',h',hk⟩:=hk;refine⟨n+m,e,T',?_,hk⟩;simp only[VC.run,yH (Nat.le_add_right n m) h,yH (Nat.le_add_left m n) h']
  |exit i=>exact⟨n,_,_,by simp only[VC.run,h],hk⟩
  |ret=>exact⟨n,_,_,by simp only[VC.run,h],hk⟩
@[simp] theorem ax2{L:bD}{c:bw}{a b:VC}{S:St}{k:cE}:go L (.cond c a b) S k=vT (S.ev c) (go L a S k) (go L b S k):=by
 refine propext ⟨?_,?_⟩
 ·rintro⟨n,e,T,h,hk⟩
  simp only[VC.run]at h;split at h
  ·rename_i t hc
   refine⟨t,hc,?_⟩;cases t with
   |true=>exact⟨n,e,T,h,hk⟩
   |false=>exact⟨n,e,T,h,hk⟩
  ·cases h
 ·rintro⟨t,hc,h⟩
  cases t with
  |true=>obtain⟨n,e,T,h,hk⟩:=h;exact⟨n,e,T,by simp only[VC.run,hc,bG];exact h,hk⟩
  |false=>obtain⟨n,e,T,h,hk⟩:=h;exact⟨n,e,T,by simp only[VC.run,hc,eD];exact h,hk⟩
@[simp] theorem ax3{L:bD}{id:Nat}{a:VC}{S:St}{k:cE}:go L (.block id a) S k=go L a S (bk id k):=by
 refine propext ⟨?_,?_⟩
 ·rintro⟨n,e,T,h,hk⟩
  simp only[VC.run]at h;split at h
  ·rename_i S' h1;cases h;exact⟨n,_,_,h1,hk⟩
  ·rename_i i S' h1
   refine⟨n,_,_,h1,?_⟩;cases hi:i==id with
   |true=>simp only[hi,bG]at h;cases h;simp only[bk,hi,bG];exact hk
   |false=>simp only[hi,eD]at h;cases h;simp only[bk,hi,eD];exact hk
  ·rename_i S' h1;cases h;exact⟨n,_,_,h1,hk⟩
  ·cases h
 ·rintro⟨n,e,T,h,hk⟩
  cases e with
  |normal=>exact⟨n,_,_,by simp only[VC.run,h],hk⟩
  |exit i =>
   cases hi:i==id with
   |true=>simp only[bk,hi,bG]at hk;exact⟨n,_,_,by simp only[VC.run,h,hi,bG],hk⟩
   |false=>simp only[bk,hi,eD]at hk;exact⟨n,_,_,by simp only[VC.run,h,hi,eD],hk⟩
  |ret=>exact⟨n,_,_,by simp only[VC.run,h],hk⟩
def LO{α:Type}(keep:df)(st:α→St)(I:α→Prop)(mu:α→Nat)(m:Nat)(k:cE):cE:=fun e T=>match e with
 |.normal=>∃y,T.keep keep=st y∧I y∧mu y<m
 |.exit i=>k (.exit i) T
 |.ret=>k .ret T
@[simp] theorem ax4{α:Type}{keep:df}{st:α→St}{I:α→Prop}{mu:α→Nat}{m:Nat}{k:cE}{T:St}{i:Nat}:LO keep st I mu m k (.exit i) T=k (.exit i) T:=rfl
@[simp] theorem ax5{α:Type}{keep:df}{st:α→St}{I:α→Prop}{mu:α→Nat}{m:Nat}{k:cE}{T:St}:LO keep st I mu m k .ret T=k .ret T:=rfl
theorem bP{α:Type}{keep:df}{st:α→St}{I:α→Prop}{mu:α→Nat}{m:Nat}{k:cE}{T:St}(y:α)(h:T.keep keep=st y)(hi:I y)(hm:mu y<m):LO keep st I mu m k .normal T:=⟨y,h,hi,hm⟩
theorem go_loop{α:Type}{L:bD}{c:VC}{gh:List gP}{keep:df}{a:VC}{k:cE}{S:St}(st:α→St)(I:α→Prop)(mu:α→Nat)(x:α)(hc:c=.loop gh keep a)(hS:cQ (oz gh S) fun S=>S.keep keep=st x)(hI:I x)
  (step:∀x,I x→go L a (st x) (LO keep st I mu (mu x) k)):go L c S k:=by
 subst hc;obtain⟨S1,hg,hS⟩:=hS
 suffices h:∀m x S,S.keep keep=st x→mu x<m→I x→∃n e T,iter (fun S=>VC.run L n a (S.keep keep)) n S=some (e,T)∧k e T by
  obtain⟨n,e,T,h1,h2⟩:=h (mu x+1) x S1 hS (by omega) hI
  exact⟨n,e,T,by simp only[VC.run,hg];exact h1,h2⟩
 intro m;induction m with
 |zero=>intro x S _ h;omega
 |succ m ih =>
  intro x S hS hm hI;obtain⟨n,e,T,h1,h2⟩:=step x hI;rw[←hS]at h1;cases e with
  |normal =>
   obtain⟨y,hT,hy,bE⟩:=h2;obtain⟨n',e,T,h3,h4⟩:=ih y T hT (by omega) hy
   refine⟨n+n'+1,e,T,?_,h4⟩;simp only[iter];rw[yH (by omega) h1]
   exact Ic (fun S x h=>yH (by omega) h) (by omega) h3
  |exit i=>exact⟨n+1,_,_,by simp only[iter];rw[yH (by omega) h1],h2⟩
  |ret=>exact⟨n+1,_,_,by simp only[iter];rw[yH (by omega) h1],h2⟩
def gA(L:bD)(f:FuncId)(args:List V)(G:List aS)(Q:V→List aS→Prop):Prop:=∃r G',L f args G=some (r,G')∧Q r G'
def z6(rs:List tl)(Q:V→List aS→Prop):cE:=fun e T=>match e with
 |.normal=>cQ (wS T rs) fun v=>Q v T.aA
 |.ret=>cQ (wS T rs) fun v=>Q v T.aA
 |.exit _=>False
@[simp] theorem ax6{rs:List tl}{Q:V→List aS→Prop}{T:St}:z6 rs Q .normal T=cQ (wS T rs) fun v=>Q v T.aA:=rfl
@[simp] theorem ax7{rs:List tl}{Q:V→List aS→Prop}{T:St}:z6 rs Q .ret T=cQ (wS T rs) fun v=>Q v T.aA:=rfl
theorem gM{F:FuncId→Option ba}{f:FuncId}{vf:ba}(hf:F f=some vf){args:List V}{G:List aS}{Q:V→List aS→Prop}(hl:(args.length==vf.nparams&&vf.defs.isEmpty&&vf.split.isNone)=true)
  (h:go (aZ F) vf.body { env:=ql 0 args,aW:=[],bj:=[],aA:=G } (z6 vf.results Q)):gA (aZ F) f args G Q:=by
 simp only[bS,Kl,Em]at hl;obtain⟨⟨hl,hd⟩,hs⟩:=hl;obtain⟨n,e,T,h1,h2⟩:=h;cases e with
 |exit i=>exact h2.elim
 |normal =>
  obtain⟨v,h3,h4⟩:=h2;exact⟨v,T.aA,X2 hf (n:=n) hd hs (by simp only[ba.call,hl,bG,h1,h3]),h4⟩
 |ret =>
  obtain⟨v,h3,h4⟩:=h2;exact⟨v,T.aA,X2 hf (n:=n) hd hs (by simp only[ba.call,hl,bG,h1,h3]),h4⟩
theorem akw{F:FuncId→Option ba}{f:FuncId}{vf:ba}(hf:F f=some vf){i off:Nat}{G:List aS}{Q:V→List aS→Prop}(hl:(1==vf.nparams && !vf.defs.isEmpty&&vf.split.isNone)=true)
  (h:go (aZ F) vf.body { env:=ql 0 [.bm i off],aW:=[],bj:=[],aA:=G } (z6 vf.results fun _ G1=>∃G2,qm (aZ F) [.bm i off] vf.defs.reverse G1=some G2∧Q (.tuple []) G2)):gA (aZ F) f [.bm i off] G Q:=by
 simp only[bS,uV,List.isEmpty_eq_false_iff,Em]at hl;obtain⟨⟨hl,hd⟩,hs⟩:=hl;obtain⟨n,e,T,h1,h2⟩:=h;cases e with
 |exit i=>exact h2.elim
 |normal =>
  obtain⟨v,h3,G2,h4,h5⟩:=h2;exact⟨_,G2,X4 hf (n:=n) hd hs (r:=v) (by simp only[ba.call,qh,hl,bG,h1,h3]) h4,h5⟩
 |ret =>
  obtain⟨v,h3,G2,h4,h5⟩:=h2;exact⟨_,G2,X4 hf (n:=n) hd hs (r:=v) (by simp only[ba.call,qh,hl,bG,h1,h3]) h4,h5⟩
theorem bM{F:FuncId→Option ba}{f:FuncId}{vf:ba}(hf:F f=some vf){args:List V}{G G':List aS}{r:V}(hl:(args.length==vf.nparams&&vf.defs.isEmpty&&vf.split.isNone)=true)
  (h:go (aZ F) vf.body { env:=ql 0 args,aW:=[],bj:=[],aA:=G } (z6 vf.results fun v G1=>v=r∧G1=G')):aZ F f args G=some (r,G'):=by
 obtain⟨_,_,h1,rfl,rfl⟩:=gM hf hl h;exact h1
theorem Qs{F:FuncId→Option ba}{f:FuncId}{vf:ba}(hf:F f=some vf){args:List V}{G G':List aS}{r:V}{p m:Nat}(hl:(args.length==vf.nparams&&vf.defs.isEmpty)=true)(hs:vf.split=some p)(hp:args[p]?=some (.slice none m []))
  (h:go (aZ F) vf.body { env:=ql 0 (args.set p .cb),aW:=[],bj:=[],aA:=G } (z6 vf.results fun v G1=>v=r∧G1=G'))
  (h':go (aZ F) vf.body { env:=ql 0 (args.set p (.fG m)),aW:=[],bj:=[],aA:=G } (z6 vf.results fun v G1=>v=r∧G1=G')):aZ F f args G=some (r,G'):=by
 simp only[bS,Kl]at hl;obtain⟨hl,hd⟩:=hl;have key:∀u,go (aZ F) vf.body { env:=ql 0 (args.set p u),aW:=[],bj:=[],aA:=G } (z6 vf.results fun v G1=>v=r∧G1=G')→∃n,vf.call (aZ F) n (args.set p u) G=some (r,G'):=fun u h=>by
  obtain⟨n,e,T,h1,h2⟩:=h;have Ye:((args.set p u).length==vf.nparams)=true:=by rw[oR];exact hl
  cases e with
  |exit i=>exact h2.elim
  |normal =>
   obtain⟨v,h3,rfl,rfl⟩:=h2;exact⟨n,by simp only[ba.call,Ye,bG,h1,h3]⟩
  |ret =>
   obtain⟨v,h3,rfl,rfl⟩:=h2;exact⟨n,by simp only[ba.call,Ye,bG,h1,h3]⟩
 obtain⟨n,h1⟩:=key _ h;obtain⟨k,h2⟩:=key _ h';exact akl hf hd hs hp h1 h2
theorem Qt{F:FuncId→Option ba}{f:FuncId}{vf:ba}(hf:F f=some vf){args:List V}{G G':List aS}{r:V}{p:Nat}(hl:(args.length==vf.nparams&&vf.defs.isEmpty)=true)(hs:vf.split=some p)(hp:∀m,args[p]?≠some (.slice none m []))
  (h:go (aZ F) vf.body { env:=ql 0 args,aW:=[],bj:=[],aA:=G } (z6 vf.results fun v G1=>v=r∧G1=G')):aZ F f args G=some (r,G'):=by
 simp only[bS,Kl]at hl;obtain⟨hl,hd⟩:=hl;obtain⟨n,e,T,h1,h2⟩:=h;cases e with
 |exit i=>exact h2.elim
 |normal =>
  obtain⟨v,h3,rfl,rfl⟩:=h2;exact X3 hf (n:=n) hd hs hp (by simp only[ba.call,hl,bG,h1,h3])
 |ret =>
  obtain⟨v,h3,rfl,rfl⟩:=h2;exact X3 hf (n:=n) hd hs hp (by simp only[ba.call,hl,bG,h1,h3])
abbrev i64(n:Int):V:=.int .i64 n
theorem wrap64{n:Int}(h1:-9223372036854775808≤n)(h2:n≤9223372036854775807):IntKind.i64.wrap n=n:=by
 simp[IntKind.wrap,IntKind.bits,IntKind.signed];omega
def rep{α:Type}(n:Nat)(x:α):List α:=List.replicate n x
@[simp] theorem ax8{α:Type}{n:Nat}{x:α}:(rep n x).length=n:=by simp[rep]
def eS(n:Nat)(f:Nat→Int):List V:=(List.range n).map fun j=>.int .i64 (f j)
@[simp] theorem ax9{n:Nat}{f:Nat→Int}:(eS n f).length=n:=by simp[eS]
theorem Qu{n:Nat}{f g:Nat→Int}(h:∀j,j<n→f j=g j):eS n f=eS n g:=by
 unfold eS;apply Ee;intro j hj;rw[h j (by simpa using hj)]
theorem pY{n:Nat}{f:Nat→Int}{i:Nat}(h:i<n):(eS n f)[i]?=some (.int .i64 (f i)):=by simp[eS,h]
@[simp] theorem aya{n:Nat}{f:Nat→Int}{i:Nat}{v:Int}:(eS n f).set i (.int .i64 v)=eS n fun j=>if j=i then v else f j:=by
 apply wD;intro k;by_cases hk:k<n
 ·by_cases h:i=k
  ·subst h
   rw[VU (by simpa using hk),pY hk]
   simp
  ·rw[VT h,pY hk,pY hk,ay (fun e=>h e.symm)]
 ·rw[jT (by simp;omega),jT (by simp;omega)]
@[simp] theorem ayb{n:Nat}{f:Nat→Int}:(eS n f).all V.cL=true:=by
 simp[eS,V.cL]
@[simp] theorem ayc{n:Nat}{f:Nat→Int}{d:Nat}:(eS n f).all (fun v => !v.cA d)=true:=by
 simp[eS,V.cA]
@[simp] theorem ayd{n:Nat}{f:Nat→Int}:(eS n f).all V.iG=true:=by
 simp[eS,V.iG,V.plain]
@[simp] theorem aye{n:Nat}{f:Nat→Int}:(eS n f).map gV=eS n f:=by
 simp[eS,gV]
@[simp] theorem ayf{n:Nat}{f:Nat→Int}:(eS n f).map strip=eS n f:=by
 simp[eS,strip,gV]
@[simp] theorem ayg{n:Nat}{f:Nat→Int}{d:Nat}:(eS n f).any (V.cA d)=false:=by
 simp[eS,V.cA]
@[simp] theorem akx{n:Nat}{f:Nat→Int}:(eS n f).take n=eS n f:=mo (by simp)
theorem Yf{S:St}{used:List Nat}{α:Type}(g:α→Int):∀l:List α,nL S (List.replicate l.length none) used (l.map fun j=>.int .i64 (g j))=some (l.map fun j=>.int .i64 (g j),used)
 |[]=>rfl
 |a::l=>by simp[AY,nL,A5,qj,el,Yf g l]
@[simp] theorem ayh{S:St}{used:List Nat}{n:Nat}{f:Nat→Int}:nL S (rep n none) used (eS n f)=some (eS n f,used):=by
 unfold rep;have:=Yf (S:=S) (used:=used) f (List.range n)
 rwa [Km]at this
@[simp] theorem Yg{n:Nat}:rep n (V.int .i64 0)=eS n fun _=>0:=by
 simp[rep,eS,List.map_const']
theorem Qv:∀(cs:List V) (off:Nat) (vs:List V),off+vs.length≤cs.length→iF cs off vs=cs.take off++vs++cs.drop (off+vs.length)
 |cs,off,[],h=>by simp[iF]
 |cs,off,v::vs,h=>by
  simp only[u4]at h;rw[iF,Qv _ _ _ (by simp;omega)]
  apply wD;intro i;simp only[u4,oQ,AW,m9,oR,iP,jU,mn,List.getElem?_cons];rcases G5 i off with h1|h1|h1
  ·simp (disch:=omega) [h1,aM,ay]
  ·subst h1
   grind
  ·grind
theorem aky{cs vs:List V}(h:vs.length=cs.length):iF cs 0 vs=vs:=by
 rw[Qv _ _ _ (by omega)]
 simp[h]
@[simp] theorem ayi{n:Nat}{f g:Nat→Int}:iF (eS n f) 0 (eS n g)=eS n g:=aky (by simp)
@[simp] theorem sm0{d:Nat} :
  V.cA d .undef=false ∧
  V.dF d .undef=false ∧
  V.cq d .undef=false ∧
  V.cA d .cb=false ∧
  V.dF d .cb=false ∧
  V.cq d .cb=false ∧
  V.cA d .gq=false ∧
  V.dF d .gq=false ∧
  V.cq d .gq=false ∧
  V.cA d .gu=false ∧
  V.dF d .gu=false ∧
  V.cq d .gu=false ∧
  V.cA d .gw=false ∧
  V.dF d .gw=false ∧
  V.cq d .gw=false:=by and_intros<;>rfl
@[simp] theorem sm1  :
  V.cL .undef=false ∧
  V.cells .undef=[.undef] ∧
  V.plain .undef=false ∧
  V.iG .undef=false ∧
  V.iS .undef=false ∧
  V.lone .undef=false ∧
  gV .undef=.undef ∧
  strip .undef=.undef ∧
  V.cL .cb=true ∧
  V.cells .cb=[.cb] ∧
  V.plain .cb=true ∧
  V.iG .cb=true ∧
  V.iS .cb=true ∧
  V.lone .cb=true ∧
  gV .cb=.cb ∧
  strip .cb=.cb ∧
  V.cL .gq=true ∧
  V.cells .gq=[.gq] ∧
  V.plain .gq=false ∧
  V.iG .gq=false ∧
  V.iS .gq=false ∧
  V.lone .gq=false ∧
  gV .gq=.gq ∧
  strip .gq=.gq ∧
  V.cL .gu=true ∧
  V.cells .gu=[.gu] ∧
  V.plain .gu=false ∧
  V.iG .gu=false ∧
  V.iS .gu=false ∧
  V.lone .gu=false ∧
  gV .gu=.gu ∧
  strip .gu=.gu ∧
  V.cL .gw=true ∧
  V.cells .gw=[.gw] ∧
  V.plain .gw=false ∧
  V.iG .gw=false ∧
  V.iS .gw=false ∧
  V.lone .gw=false ∧
  gV .gw=.gw ∧
  strip .gw=.gw ∧
  V.jr .cb=.cb ∧
  V.kQ .cb=.cb ∧
  V.jr .gq=.gq ∧
  V.kQ .gq=.gq ∧
  V.jr .gu=.gu ∧
  V.kQ .gu=.gu ∧
  V.jr .gw=.gw ∧
  V.kQ .gw=.gw:=by and_intros<;>rfl
@[simp] theorem sm2{k:IntKind}{n:Int}{d:Nat} :
  V.cA d (.int k n)=false ∧
  V.dF d (.int k n)=false ∧
  V.cq d (.int k n)=false:=by and_intros<;>rfl
@[simp] theorem sm3{k:IntKind}{n:Int} :
  V.cL (.int k n)=true ∧
  V.cells (.int k n)=[.int k n] ∧
  V.plain (.int k n)=true ∧
  V.iG (.int k n)=true ∧
  V.iS (.int k n)=true ∧
  V.lone (.int k n)=true ∧
  gV (.int k n)=.int k n ∧
  strip (.int k n)=.int k n ∧
  V.jr (.int k n)=.int k n ∧
  V.kQ (.int k n)=.int k n:=by and_intros<;>rfl
@[simp] theorem sm4{b:Bool}{d:Nat} :
  V.cA d (.bool b)=false ∧
  V.dF d (.bool b)=false ∧
  V.cq d (.bool b)=false:=by and_intros<;>rfl
@[simp] theorem sm5{b:Bool} :
  V.cL (.bool b)=true ∧
  V.cells (.bool b)=[.bool b] ∧
  V.plain (.bool b)=true ∧
  V.iG (.bool b)=true ∧
  V.iS (.bool b)=true ∧
  V.lone (.bool b)=true ∧
  gV (.bool b)=.bool b ∧
  strip (.bool b)=.bool b ∧
  V.jr (.bool b)=.bool b ∧
  V.kQ (.bool b)=.bool b:=by and_intros<;>rfl
@[simp] theorem sm6{s:List UInt8}{d:Nat} :
  V.cA d (.str s)=false ∧
  V.dF d (.str s)=false ∧
  V.cq d (.str s)=false:=by and_intros<;>rfl
@[simp] theorem sm7{s:List UInt8} :
  V.cL (.str s)=true ∧
  V.cells (.str s)=[.str s] ∧
  V.plain (.str s)=true ∧
  V.iG (.str s)=true ∧
  V.iS (.str s)=true ∧
  V.lone (.str s)=true ∧
  gV (.str s)=.str s ∧
  strip (.str s)=.str s ∧
  V.jr (.str s)=.str s ∧
  V.kQ (.str s)=.str s:=by and_intros<;>rfl
@[simp] theorem sm8{z:Nat}{es:List (List V)}{d:Nat} :
  V.cA d (.slice none z es)=false ∧
  V.dF d (.slice none z es)=false ∧
  V.cq d (.slice none z es)=false:=by and_intros<;>rfl
@[simp] theorem sm9{z:Nat}{es:List (List V)} :
  V.cL (.slice none z es)=true ∧
  V.cells (.slice none z es)=[.slice none z es] ∧
  V.plain (.slice none z es)=true ∧
  V.iG (.slice none z es)=true ∧
  V.iS (.slice none z es)=true ∧
  V.lone (.slice none z es)=true ∧
  gV (.slice none z es)=.slice none z es ∧
  strip (.slice none z es)=.slice none z es:=by and_intros<;>rfl
@[simp] theorem ayt{t z:Nat}{es:List (List V)}{d:Nat} :
  V.cA d (.slice (some t) z es:V)=(t==d) ∧
  V.dF d (.slice (some t) z es:V)=(t==d) ∧
  V.cq d (.slice (some t) z es:V)=(t==d):=by and_intros<;>rfl
@[simp] theorem ayu{t z:Nat}{es:List (List V)} :
  V.cL (.slice (some t) z es:V)=true ∧
  V.cells (.slice (some t) z es:V)=[.slice (some t) z es] ∧
  V.plain (.slice (some t) z es:V)=false ∧
  V.iG (.slice (some t) z es:V)=true ∧
  V.iS (.slice (some t) z es:V)=true ∧
  V.lone (.slice (some t) z es:V)=true ∧
  gV (.slice (some t) z es:V)=.slice none z es ∧
  strip (.slice (some t) z es:V)=.slice none z es:=by and_intros<;>rfl
@[simp] theorem ayv{cs:List V}{d:Nat} :
  V.cA d (.agg cs)=true ∧
  V.dF d (.agg cs)=cs.any (V.cA d) ∧
  V.cq d (.agg cs)=cs.any (V.cA d):=by and_intros<;>rfl
@[simp] theorem ayw{cs:List V} :
  V.cL (.agg cs)=false ∧
  V.cells (.agg cs)=cs ∧
  V.plain (.agg cs)=false ∧
  V.iG (.agg cs)=false ∧
  V.iS (.agg cs)=cs.all V.iG ∧
  V.lone (.agg cs)=cs.all V.iG ∧
  gV (.agg cs)=.agg cs ∧
  strip (.agg cs)=.agg (cs.map gV) ∧
  V.kQ (.agg cs)=.agg (cs.map V.jr):=by and_intros<;>rfl
@[simp] theorem ayx{vs:List V}{d:Nat} :
  V.cA d (.tuple vs)=true ∧
  V.dF d (.tuple vs)=true ∧
  V.cq d (.tuple vs)=vs.any (V.dF d):=by and_intros<;>rfl
@[simp] theorem ayy{vs:List V} :
  V.cL (.tuple vs)=false ∧
  V.cells (.tuple vs)=[.tuple vs] ∧
  V.plain (.tuple vs)=false ∧
  V.iG (.tuple vs)=false ∧
  V.iS (.tuple vs)=false ∧
  V.lone (.tuple vs)=vs.all V.iS ∧
  gV (.tuple vs)=.tuple vs ∧
  strip (.tuple vs)=.tuple vs:=by and_intros<;>rfl
@[simp] theorem ayz{r:List V}{o:Nat}{d:Nat} :
  V.cA d (.eP r o)=false ∧
  V.dF d (.eP r o)=false ∧
  V.cq d (.eP r o)=false:=by and_intros<;>rfl
@[simp] theorem ayA{r:List V}{o:Nat} :
  V.cL (.eP r o)=true ∧
  V.cells (.eP r o)=[.eP r o] ∧
  V.plain (.eP r o)=false ∧
  V.iG (.eP r o)=false ∧
  V.iS (.eP r o)=false ∧
  V.lone (.eP r o)=false ∧
  gV (.eP r o)=.eP r o ∧
  strip (.eP r o)=.eP r o:=by and_intros<;>rfl
@[simp] theorem ayB{i o:Nat}{d:Nat} :
  V.cA d (.bJ i o)=(i==d) ∧
  V.dF d (.bJ i o)=(i==d) ∧
  V.cq d (.bJ i o)=(i==d) ∧
  V.cA d (.bm i o)=false ∧
  V.dF d (.bm i o)=false ∧
  V.cq d (.bm i o)=false:=by and_intros<;>rfl
@[simp] theorem ayC{i o:Nat} :
  V.cL (.bJ i o)=true ∧
  V.cells (.bJ i o)=[.bJ i o] ∧
  V.plain (.bJ i o)=false ∧
  V.iG (.bJ i o)=false ∧
  V.iS (.bJ i o)=false ∧
  V.lone (.bJ i o)=false ∧
  gV (.bJ i o)=.bJ i o ∧
  strip (.bJ i o)=.bJ i o ∧
  V.cL (.bm i o)=true ∧
  V.cells (.bm i o)=[.bm i o] ∧
  V.plain (.bm i o)=false ∧
  V.iG (.bm i o)=false ∧
  V.iS (.bm i o)=false ∧
  V.lone (.bm i o)=false ∧
  gV (.bm i o)=.bm i o ∧
  strip (.bm i o)=.bm i o ∧
  V.jr (.bm i o)=.bm i o ∧
  V.kQ (.bm i o)=.bm i o:=by and_intros<;>rfl
@[simp] theorem ayD{i o l:Nat}{d:Nat} :
  V.cA d (.bR i o l)=(i==d) ∧
  V.dF d (.bR i o l)=(i==d) ∧
  V.cq d (.bR i o l)=(i==d):=by and_intros<;>rfl
@[simp] theorem ayE{i o l:Nat} :
  V.cL (.bR i o l)=true ∧
  V.cells (.bR i o l)=[.bR i o l] ∧
  V.plain (.bR i o l)=false ∧
  V.iG (.bR i o l)=false ∧
  V.iS (.bR i o l)=false ∧
  V.lone (.bR i o l)=false ∧
  gV (.bR i o l)=.bR i o l ∧
  strip (.bR i o l)=.bR i o l ∧
  V.jr (.bR i o l)=.bR i o l ∧
  V.kQ (.bR i o l)=.bR i o l:=by and_intros<;>rfl
@[simp] theorem ayF{f:FuncId}{c:List V}{d:Nat} :
  V.cA d (.fn f c)=false ∧
  V.dF d (.fn f c)=false ∧
  V.cq d (.fn f c)=false:=by and_intros<;>rfl
@[simp] theorem ayG{f:FuncId}{c:List V} :
  V.cL (.fn f c)=true ∧
  V.cells (.fn f c)=[.fn f c] ∧
  V.plain (.fn f c)=false ∧
  V.iG (.fn f c)=false ∧
  V.iS (.fn f c)=false ∧
  V.lone (.fn f c)=false ∧
  gV (.fn f c)=.fn f c ∧
  strip (.fn f c)=.fn f c ∧
  V.jr (.fn f c)=.fn f c ∧
  V.kQ (.fn f c)=.fn f c:=by and_intros<;>rfl
@[simp] theorem ayH{i:Nat}{d:Nat} :
  V.cA d (.map i)=false ∧
  V.dF d (.map i)=false ∧
  V.cq d (.map i)=false:=by and_intros<;>rfl
@[simp] theorem ayI{i:Nat} :
  V.cL (.map i)=true ∧
  V.cells (.map i)=[.map i] ∧
  V.plain (.map i)=false ∧
  V.iG (.map i)=false ∧
  V.iS (.map i)=false ∧
  V.lone (.map i)=false ∧
  gV (.map i)=.map i ∧
  strip (.map i)=.map i ∧
  V.jr (.map i)=.map i ∧
  V.kQ (.map i)=.map i:=by and_intros<;>rfl
@[simp] theorem ayJ{n:Nat}{es:List (List V)}{d:Nat} :
  V.cA d (.eF n es)=false ∧
  V.dF d (.eF n es)=false ∧
  V.cq d (.eF n es)=false:=by and_intros<;>rfl
@[simp] theorem ayK{n:Nat}{es:List (List V)} :
  V.cL (.eF n es)=true ∧
  V.cells (.eF n es)=[.eF n es] ∧
  V.plain (.eF n es)=false ∧
  V.iG (.eF n es)=false ∧
  V.iS (.eF n es)=false ∧
  V.lone (.eF n es)=false ∧
  gV (.eF n es)=.eF n es ∧
  strip (.eF n es)=.eF n es ∧
  V.jr (.eF n es)=.slice none n es ∧
  V.kQ (.eF n es)=.slice none n es:=by and_intros<;>rfl
@[simp] theorem ayL{t:Option Nat}{n:Nat}{es:List (List V)} :
  V.jr (.slice t n es)=.slice t n es ∧
  V.kQ (.slice t n es)=.slice t n es:=by and_intros<;>rfl
@[simp] theorem ayM{n:Nat}{d:Nat} :
  V.cA d (.dY n)=false ∧
  V.dF d (.dY n)=false ∧
  V.cq d (.dY n)=false ∧
  V.cA d (.fG n)=false ∧
  V.dF d (.fG n)=false ∧
  V.cq d (.fG n)=false:=by and_intros<;>rfl
@[simp] theorem ayN{n:Nat} :
  V.cL (.dY n)=true ∧
  V.cells (.dY n)=[.dY n] ∧
  V.plain (.dY n)=false ∧
  V.iG (.dY n)=false ∧
  V.iS (.dY n)=false ∧
  V.lone (.dY n)=false ∧
  gV (.dY n)=.dY n ∧
  strip (.dY n)=.dY n ∧
  V.jr (.dY n)=.dY n ∧
  V.kQ (.dY n)=.dY n ∧
  V.cL (.fG n)=true ∧
  V.cells (.fG n)=[.fG n] ∧
  V.plain (.fG n)=false ∧
  V.iG (.fG n)=false ∧
  V.iS (.fG n)=false ∧
  V.lone (.fG n)=false ∧
  gV (.fG n)=.fG n ∧
  strip (.fG n)=.fG n ∧
  V.jr (.fG n)=.fG n ∧
  V.kQ (.fG n)=.fG n:=by and_intros<;>rfl
@[simp] theorem ayO{t:Option Nat}{z:Nat}{es:List (List V)}:gV (.slice t z es:V)=.slice none z es:=by cases t<;>rfl
@[simp] theorem ayP{t:Option Nat}{z:Nat}{es:List (List V)}:strip (.slice t z es:V)=.slice none z es:=by cases t<;>rfl
@[simp] theorem ayQ{t:Option Nat}{z:Nat}{es:List (List V)}:V.iG (.slice t z es:V)=true:=by cases t<;>rfl
@[simp] theorem ayR{t:Option Nat}{z:Nat}{es:List (List V)}:V.iS (.slice t z es:V)=true:=by cases t<;>rfl
@[simp] theorem ayS{t:Option Nat}{z:Nat}{es:List (List V)}:V.lone (.slice t z es:V)=true:=by cases t<;>rfl
@[simp] theorem ayT{t:Option Nat}{z:Nat}{es:List (List V)}:V.cL (.slice t z es:V)=true:=by cases t<;>rfl
@[simp] theorem ayU{t:Option Nat}{z:Nat}{es:List (List V)}:V.cells (.slice t z es:V)=[.slice t z es]:=by cases t<;>rfl
@[simp] theorem ayV{v:V}:tm .kb v=v:=rfl
@[simp] theorem ayW{i:Nat}{v:V}:tm (.loc i) v=v:=rfl
@[simp] theorem ayX{v:V}:tm .aA v=v.kQ:=rfl
def Qw(L:bD)(d:Option Nat)(reg:List (Nat×Nat))(S:St)(os:List bH)(keep:df)(k:cE):V×List aS→Prop:=fun r =>
 r.1.lone=true∧eb L os keep k ({ S with bj:=(recv reg r.1).2++S.bj }.put d (recv reg r.1).1)
@[simp] theorem akz{L:bD}{d:Option Nat}{reg:List (Nat×Nat)}{S:St}{os:List bH}{keep:df}{k:cE}{r:V}{G:List aS} :
  Qw L d reg S os keep k (r,G)=(r.lone=true∧eb L os keep k ({ S with bj:=(recv reg r).2++S.bj }.put d (recv reg r).1)):=rfl
def Yh(L:bD)(d:Option Nat)(g:FuncId)(reg:List (Nat×Nat))(S:St)(os:List bH)(keep:df)(k:cE):List V→Prop:=fun vs=>cQ (L g vs []) (Qw L d reg S os keep k)
@[simp] theorem akA{L:bD}{d:Option Nat}{g:FuncId}{reg:List (Nat×Nat)}{S:St}{os:List bH}{keep:df}{k:cE}{vs:List V} :
  Yh L d g reg S os keep k vs=cQ (L g vs []) (Qw L d reg S os keep k):=rfl
@[simp high] theorem ayY{L:bD}{d:Option Nat}{g:FuncId}{args:List (Sh×bw)}{reg:List (Nat×Nat)}{os:List bH}{keep:df}{k:cE}{S:St} :
  eb L (⟨d,.call true (.c (.fn g [])) args reg,none⟩::os) keep k S=cQ (ni S args) (Yh L d g reg S os keep k):=by
 rw[iU];simp only[bH.run,VO.run,St.ev];cases ni S args with
 |none=>simp[cQ]
 |some vs =>
  simp only[uD,akA];rcases L g vs []with _ | ⟨r,G⟩
  ·simp[cQ]
  ·simp only[uD,akz]
   cases r.lone<;>simp[cQ]
def Qx(L:bD)(d:Option Nat)(reg:List (Nat×Nat))(S:St)(os:List bH)(keep:df)(k:cE):V×List aS→Prop:=fun r =>
 eb L os keep k ({ S with aA:=r.2,bj:=(recv reg r.1).2++S.bj }.put d (recv reg r.1).1)
@[simp] theorem ayZ{L:bD}{d:Option Nat}{reg:List (Nat×Nat)}{S:St}{os:List bH}{keep:df}{k:cE}{r:V}{G:List aS} :
  Qx L d reg S os keep k (r,G)=eb L os keep k ({ S with aA:=G,bj:=(recv reg r).2++S.bj }.put d (recv reg r).1):=rfl
def Qy(L:bD)(d:Option Nat)(g:FuncId)(cap:List V)(reg:List (Nat×Nat))(S:St)(os:List bH)(keep:df)(k:cE):List V→Prop:=fun vs=>cQ (L g (vs++cap) S.aA) (Qx L d reg S os keep k)
@[simp] theorem akB{L:bD}{d:Option Nat}{g:FuncId}{cap:List V}{reg:List (Nat×Nat)}{S:St}{os:List bH}{keep:df}{k:cE}{vs:List V} :
  Qy L d g cap reg S os keep k vs=cQ (L g (vs++cap) S.aA) (Qx L d reg S os keep k):=rfl
def Qz(L:bD)(d:Option Nat)(args:List (Sh×bw))(reg:List (Nat×Nat))(S:St)(os:List bH)(keep:df)(k:cE):V→Prop:=fun f=>match f with
 |.fn g cap=>cQ (nh S args) (Qy L d g cap reg S os keep k)
 |_=>False
@[simp] theorem akC{L:bD}{d:Option Nat}{args:List (Sh×bw)}{reg:List (Nat×Nat)}{S:St}{os:List bH}{keep:df}{k:cE}{g:FuncId}{cap:List V} :
  Qz L d args reg S os keep k (.fn g cap)=cQ (nh S args) (Qy L d g cap reg S os keep k):=rfl
@[simp high] theorem ay0{L:bD}{d:Option Nat}{f:bw}{args:List (Sh×bw)}{reg:List (Nat×Nat)}{os:List bH}{keep:df}{k:cE}{S:St} :
  eb L (⟨d,.call false f args reg,none⟩::os) keep k S=cQ (S.ev f) (Qz L d args reg S os keep k):=by
 rw[iU];simp only[bH.run,VO.run];rcases S.ev f with _|v
 ·simp[cQ]
 ·simp only[uD]
  cases v with
  |fn g cap =>
   simp only[akC];cases nh S args with
   |none=>simp[cQ]
   |some vs =>
    simp only[uD,akB];rcases L g (vs++cap) S.aA with _ | ⟨r,G⟩
    ·simp[cQ]
    ·simp
  |_=>simp[cQ,Qz]
def QA(L:bD)(d:Option Nat)(S:St)(os:List bH)(keep:df)(k:cE):V×List aS→Prop:=fun r =>
 r.2=S.aA∧eb L os keep k (S.put d (recv [] r.1).1)
@[simp] theorem akD{L:bD}{d:Option Nat}{S:St}{os:List bH}{keep:df}{k:cE}{r:V}{G:List aS} :
  QA L d S os keep k (r,G)=(G=S.aA∧eb L os keep k (S.put d (recv [] r).1)):=rfl
def QB(L:bD)(d:Option Nat)(g:FuncId)(cap:List V)(S:St)(os:List bH)(keep:df)(k:cE):List V→Prop:=fun vs=>cQ (L g (vs++cap) S.aA) (QA L d S os keep k)
@[simp] theorem akE{L:bD}{d:Option Nat}{g:FuncId}{cap:List V}{S:St}{os:List bH}{keep:df}{k:cE}{vs:List V} :
  QB L d g cap S os keep k vs=cQ (L g (vs++cap) S.aA) (QA L d S os keep k):=rfl
def QC(L:bD)(d:Option Nat)(args:List (Sh×bw))(S:St)(os:List bH)(keep:df)(k:cE):V→Prop:=fun f=>match f with
 |.fn g cap=>cQ (nh S args) (QB L d g cap S os keep k)
 |_=>False
@[simp] theorem akF{L:bD}{d:Option Nat}{args:List (Sh×bw)}{S:St}{os:List bH}{keep:df}{k:cE}{g:FuncId}{cap:List V} :
  QC L d args S os keep k (.fn g cap)=cQ (nh S args) (QB L d g cap S os keep k):=rfl
@[simp high] theorem ay1{L:bD}{d:Option Nat}{f:bw}{args:List (Sh×bw)}{os:List bH}{keep:df}{k:cE}{S:St} :
  eb L (⟨d,.sd f args,none⟩::os) keep k S=cQ (S.ev f) (QC L d args S os keep k):=by
 rw[iU];simp only[bH.run,VO.run];rcases S.ev f with _|v
 ·simp[cQ]
 ·simp only[uD]
  cases v with
  |fn g cap =>
   simp only[akF];cases nh S args with
   |none=>simp[cQ]
   |some vs =>
    simp only[uD,akE];rcases L g (vs++cap) S.aA with _ | ⟨r,G⟩
    ·simp[cQ]
    ·simp only[uD,akD,rd]
     by_cases h:G=S.aA
     ·simp[h]
     ·simp[h,cQ]
  |_=>simp[cQ,QC]
def LP(L:bD)(d:Option Nat)(id:Nat)(S:St)(os:List bH)(keep:df)(k:cE):V×Option (List V)→Prop:=fun p=>match p.2 with
 |some cs=>eb L os keep k ({ S with aW:=(id,cs)::S.aW }.put d p.1)
 |none=>eb L os keep k (S.put d p.1)
@[simp] theorem ay2{L:bD}{d:Option Nat}{id:Nat}{S:St}{os:List bH}{keep:df}{k:cE}{v:V}{cs:List V} :
  LP L d id S os keep k (v,some cs)=eb L os keep k ({ S with aW:=(id,cs)::S.aW }.put d v):=rfl
@[simp] theorem ay3{L:bD}{d:Option Nat}{id:Nat}{S:St}{os:List bH}{keep:df}{k:cE}{v:V} :
  LP L d id S os keep k (v,none)=eb L os keep k (S.put d v):=rfl
def QD(L:bD)(d:Option Nat)(id pos:Nat)(S:St)(os:List bH)(keep:df)(k:cE):V×List aS→Prop:=fun r=>cQ (kz id pos r.1) (LP L d id S os keep k)
@[simp] theorem akG{L:bD}{d:Option Nat}{id pos:Nat}{S:St}{os:List bH}{keep:df}{k:cE}{r:V}{G:List aS} :
  QD L d id pos S os keep k (r,G)=cQ (kz id pos r) (LP L d id S os keep k):=rfl
def Yi(L:bD)(d:Option Nat)(g:FuncId)(id pos:Nat)(S:St)(os:List bH)(keep:df)(k:cE):List V→Prop:=fun vs=>cQ (L g vs []) (QD L d id pos S os keep k)
@[simp] theorem akH{L:bD}{d:Option Nat}{g:FuncId}{id pos:Nat}{S:St}{os:List bH}{keep:df}{k:cE}{vs:List V} :
  Yi L d g id pos S os keep k vs=cQ (L g vs []) (QD L d id pos S os keep k):=rfl
@[simp high] theorem ay4{L:bD}{d:Option Nat}{g:FuncId}{args:List (Sh×Sh×bw)}{ids:List Nat}{id pos:Nat}{os:List bH}{keep:df}{k:cE}{S:St} :
  eb L (⟨d,.own (.c (.fn g [])) args ids id pos,none⟩::os) keep k S=cQ (lK S ids args) (Yi L d g id pos S os keep k):=by
 rw[iU];simp only[bH.run,VO.run,St.ev];cases lK S ids args with
 |none=>simp[cQ]
 |some vs =>
  simp only[uD,akH];rcases L g vs []with _ | ⟨r,G⟩
  ·simp[cQ]
  ·simp only[uD,akG]
   rcases kz id pos r with _ | ⟨v,_|cs⟩
   ·simp[cQ]
   ·simp
   ·simp
def Fc(L:bD)(d:Option Nat)(id:Nat)(S:St)(os:List bH)(keep:df)(k:cE):V×Option (List V)→Prop:=fun p=>match p with
 |(.bR i n ln,some cs)=>cQ (bif i==id&&Nat.blt 0 cs.length&&Nat.blt 0 ln&&cs.all V.sc then some ({ S with aA:=S.aA++[aS.cells cs] }.put d (.c5 S.aA.length n ln)) else none) (eb L os keep k)
 |(.dY n,none)=>eb L os keep k ({ S with aA:=S.aA++[aS.cells []] }.put d (.c5 S.aA.length n 0))
 |_=>False
@[simp] theorem ay5{L:bD}{d:Option Nat}{id i n ln:Nat}{S:St}{os:List bH}{keep:df}{k:cE}{cs:List V} :
  Fc L d id S os keep k (.bR i n ln,some cs)=cQ (bif i==id&&Nat.blt 0 cs.length&&Nat.blt 0 ln&&cs.all V.sc then some ({ S with aA:=S.aA++[aS.cells cs] }.put d (.c5 S.aA.length n ln)) else none) (eb L os keep k):=rfl
@[simp] theorem ay6{L:bD}{d:Option Nat}{id n:Nat}{S:St}{os:List bH}{keep:df}{k:cE} :
  Fc L d id S os keep k (.dY n,none)=eb L os keep k ({ S with aA:=S.aA++[aS.cells []] }.put d (.c5 S.aA.length n 0)):=rfl
def QE(L:bD)(d:Option Nat)(id:Nat)(S:St)(os:List bH)(keep:df)(k:cE):V×List aS→Prop:=fun r=>cQ (kz id 0 r.1) (Fc L d id S os keep k)
@[simp] theorem akI{L:bD}{d:Option Nat}{id:Nat}{S:St}{os:List bH}{keep:df}{k:cE}{r:V}{G:List aS} :
  QE L d id S os keep k (r,G)=cQ (kz id 0 r) (Fc L d id S os keep k):=rfl
def Yj(L:bD)(d:Option Nat)(g:FuncId)(id:Nat)(S:St)(os:List bH)(keep:df)(k:cE):List V→Prop:=fun vs=>cQ (L g vs []) (QE L d id S os keep k)
@[simp] theorem akJ{L:bD}{d:Option Nat}{g:FuncId}{id:Nat}{S:St}{os:List bH}{keep:df}{k:cE}{vs:List V} :
  Yj L d g id S os keep k vs=cQ (L g vs []) (QE L d id S os keep k):=rfl
@[simp high] theorem ay7{L:bD}{d:Option Nat}{g:FuncId}{args:List (Sh×bw)}{id:Nat}{os:List bH}{keep:df}{k:cE}{S:St} :
  eb L (⟨d,.sf (.c (.fn g [])) args id,none⟩::os) keep k S=cQ (ni S args) (Yj L d g id S os keep k):=by
 rw[iU];simp only[bH.run,VO.run,St.ev];cases ni S args with
 |none=>simp[cQ]
 |some vs =>
  simp only[uD,akJ];rcases L g vs []with _ | ⟨r,G⟩
  ·simp[cQ]
  ·simp only[uD,akI]
   rcases kz id 0 r with _ | ⟨v,o⟩
   ·simp[cQ]
   ·rcases o with _|cs
    ·cases v<;>simp[cQ,Fc]
    ·cases v<;>simp[cQ,Fc]
     all_goals (split<;>simp_all)
def kG(w:Bool)(o:Option V)(A B:Prop):Prop:=match o with
 |some (.bool b)=>bif b==w then A else B
 |some .undef=>B
 |_=>False
@[simp] theorem ay8{b:Bool}{A B:Prop}:kG true (some (.bool b)) A B=vT (some (.bool b)) A B:=by cases b<;>simp[kG]
@[simp] theorem ay9{b:Bool}{A B:Prop}:kG false (some (.bool b)) A B=vT (some (.bool b)) B A:=by cases b<;>simp[kG]
@[simp] theorem aza{w:Bool}{A B:Prop}:kG w (some .undef) A B=B:=rfl
@[simp] theorem azb{w b:Bool}{x y:V}{A B:Prop}:kG w (some (lz b x y)) A B=vT (some (.bool b)) (kG w (some x) A B) (kG w (some y) A B):=by cases b<;>simp
@[simp high] theorem azc{L:bD}{d:Option Nat}{al:Bool}{f:bw}{args:List (Sh×bw)}{reg:List (Nat×Nat)}{g:Nat}{w:Bool}{os:List bH}{keep:df}{k:cE}{S:St} :
  eb L (⟨d,.call al f args reg,some (g,w)⟩::os) keep k S=kG w (look g S.env) (eb L (⟨d,.call al f args reg,none⟩::os) keep k S) (eb L os keep k (S.put d .undef)):=by
 rw[iU,iU];simp only[bH.run];rcases look g S.env with _|v
 ·simp[cQ,kG]
 ·cases v with
  |bool b=>simp only[kG];cases b==w<;>simp
  |undef=>simp[kG]
  |_=>simp[cQ,kG]
@[simp high] theorem azd{L:bD}{d:Option Nat}{f:bw}{args:List (Sh×bw)}{g:Nat}{w:Bool}{os:List bH}{keep:df}{k:cE}{S:St} :
  eb L (⟨d,.sd f args,some (g,w)⟩::os) keep k S=kG w (look g S.env) (eb L (⟨d,.sd f args,none⟩::os) keep k S) (eb L os keep k (S.put d .undef)):=by
 rw[iU,iU];simp only[bH.run];rcases look g S.env with _|v
 ·simp[cQ,kG]
 ·cases v with
  |bool b=>simp only[kG];cases b==w<;>simp
  |undef=>simp[kG]
  |_=>simp[cQ,kG]
theorem akK{reg:List (Nat×Nat)}{cs:List V}:recv reg (.agg cs)=(.agg (cX reg 0 cs).1,(cX reg 0 cs).2):=rfl
theorem akL{reg:List (Nat×Nat)}{cs:List V}:recv reg (.tuple cs)=(.tuple (cX reg 0 cs).1,(cX reg 0 cs).2):=rfl
attribute [simp] akK akL
@[simp] theorem aze{reg:List (Nat×Nat)}{i:Nat} :
  cX reg i []=([],[]) ∧
  recv reg (.map i)=(strip (.map i),[]):=by and_intros<;>rfl
@[simp] theorem akM{i:Nat}:∀{vs:List V},cX [] i vs=(vs.map strip,[])
 |[]=>rfl
 |v::vs=>by
  simp only[cX,akM (i:=i+1) (vs:=vs)];cases v with
  |slice t n es=>cases t<;>rfl
  |_=>rfl
def QF(o:Option Nat)(n:Nat)(es:List (List V))(r:List V×List (Nat×Nat)):List V×List (Nat×Nat):=match o with
 |some f=>(.slice (some f) n es::r.1,(f,es.length)::r.2)
 |none=>(.slice none n es::r.1,r.2)
@[simp] theorem azf{f n:Nat}{es:List (List V)}{r:List V×List (Nat×Nat)}:QF (some f) n es r=(.slice (some f) n es::r.1,(f,es.length)::r.2):=rfl
@[simp] theorem azg{n:Nat}{es:List (List V)}{r:List V×List (Nat×Nat)}:QF none n es r=(.slice none n es::r.1,r.2):=rfl
@[simp] theorem azh{reg:List (Nat×Nat)}{i n t:Nat}{es:List (List V)}{vs:List V}:cX reg i (.slice (some t) n es::vs)=QF (look i reg) n es (cX reg (i+1) vs):=by
 simp only[cX];cases look i reg<;>rfl
@[simp] theorem azi{reg:List (Nat×Nat)}{j:Nat}{us:List V}{k:IntKind}{n:Int}:cX reg j ((.int k n)::us)=(strip (.int k n)::(cX reg (j+1) us).1,(cX reg (j+1) us).2):=rfl
@[simp] theorem azj{reg:List (Nat×Nat)}{k:IntKind}{n:Int}:recv reg (.int k n)=(strip (.int k n),[]):=rfl
@[simp] theorem azk{reg:List (Nat×Nat)}{j:Nat}{us:List V}{b:Bool}:cX reg j ((.bool b)::us)=(strip (.bool b)::(cX reg (j+1) us).1,(cX reg (j+1) us).2):=rfl
@[simp] theorem azl{reg:List (Nat×Nat)}{b:Bool}:recv reg (.bool b)=(strip (.bool b),[]):=rfl
@[simp] theorem azm{reg:List (Nat×Nat)}{j:Nat}{us:List V}{s:List UInt8}:cX reg j ((.str s)::us)=(strip (.str s)::(cX reg (j+1) us).1,(cX reg (j+1) us).2):=rfl
@[simp] theorem azn{reg:List (Nat×Nat)}{s:List UInt8}:recv reg (.str s)=(strip (.str s),[]):=rfl
@[simp] theorem azo{reg:List (Nat×Nat)}{j:Nat}{us:List V} :
  cX reg j (.cb::us)=(strip .cb::(cX reg (j+1) us).1,(cX reg (j+1) us).2) ∧
  cX reg j (.gq::us)=(strip .gq::(cX reg (j+1) us).1,(cX reg (j+1) us).2) ∧
  cX reg j (.gu::us)=(strip .gu::(cX reg (j+1) us).1,(cX reg (j+1) us).2) ∧
  cX reg j (.gw::us)=(strip .gw::(cX reg (j+1) us).1,(cX reg (j+1) us).2) ∧
  cX reg j (.undef::us)=(strip .undef::(cX reg (j+1) us).1,(cX reg (j+1) us).2):=by and_intros<;>rfl
@[simp] theorem azp{reg:List (Nat×Nat)} :
  recv reg .cb=(strip .cb,[]) ∧
  recv reg .gq=(strip .gq,[]) ∧
  recv reg .gu=(strip .gu,[]) ∧
  recv reg .gw=(strip .gw,[]) ∧
  recv reg .undef=(strip .undef,[]):=by and_intros<;>rfl
@[simp] theorem azq{reg:List (Nat×Nat)}{j:Nat}{us:List V}{z:Nat}{es:List (List V)}:cX reg j ((.slice none z es)::us)=(strip (.slice none z es)::(cX reg (j+1) us).1,(cX reg (j+1) us).2):=rfl
@[simp] theorem azr{reg:List (Nat×Nat)}{z:Nat}{es:List (List V)}:recv reg (.slice none z es)=(strip (.slice none z es),[]):=rfl
@[simp] theorem azs{reg:List (Nat×Nat)}{j:Nat}{us:List V}{cs:List V}:cX reg j ((.agg cs)::us)=(strip (.agg cs)::(cX reg (j+1) us).1,(cX reg (j+1) us).2):=rfl
@[simp] theorem azt{reg:List (Nat×Nat)}{j:Nat}{us:List V}{vs:List V}:cX reg j ((.tuple vs)::us)=(strip (.tuple vs)::(cX reg (j+1) us).1,(cX reg (j+1) us).2):=rfl
@[simp] theorem azu{reg:List (Nat×Nat)}{j:Nat}{us:List V}{r:List V}{o:Nat}:cX reg j ((.eP r o)::us)=(strip (.eP r o)::(cX reg (j+1) us).1,(cX reg (j+1) us).2):=rfl
@[simp] theorem azv{reg:List (Nat×Nat)}{r:List V}{o:Nat}:recv reg (.eP r o)=(strip (.eP r o),[]):=rfl
@[simp] theorem azw{reg:List (Nat×Nat)}{j:Nat}{us:List V}{i o:Nat} :
  cX reg j ((.bJ i o)::us)=(strip (.bJ i o)::(cX reg (j+1) us).1,(cX reg (j+1) us).2) ∧
  cX reg j ((.bm i o)::us)=(strip (.bm i o)::(cX reg (j+1) us).1,(cX reg (j+1) us).2):=by and_intros<;>rfl
@[simp] theorem azx{reg:List (Nat×Nat)}{i o:Nat} :
  recv reg (.bJ i o)=(strip (.bJ i o),[]) ∧
  recv reg (.bm i o)=(strip (.bm i o),[]):=by and_intros<;>rfl
@[simp] theorem azy{reg:List (Nat×Nat)}{j:Nat}{us:List V}{i o l:Nat}:cX reg j ((.bR i o l)::us)=(strip (.bR i o l)::(cX reg (j+1) us).1,(cX reg (j+1) us).2):=rfl
@[simp] theorem azz{reg:List (Nat×Nat)}{i o l:Nat}:recv reg (.bR i o l)=(strip (.bR i o l),[]):=rfl
@[simp] theorem azA{reg:List (Nat×Nat)}{j:Nat}{us:List V}{f:FuncId}{c:List V}:cX reg j ((.fn f c)::us)=(strip (.fn f c)::(cX reg (j+1) us).1,(cX reg (j+1) us).2):=rfl
@[simp] theorem azB{reg:List (Nat×Nat)}{f:FuncId}{c:List V}:recv reg (.fn f c)=(strip (.fn f c),[]):=rfl
@[simp] theorem azC{reg:List (Nat×Nat)}{j:Nat}{us:List V}{i:Nat}:cX reg j ((.map i)::us)=(strip (.map i)::(cX reg (j+1) us).1,(cX reg (j+1) us).2):=rfl
@[simp] theorem azD{reg:List (Nat×Nat)}{n t:Nat}{es:List (List V)}:recv reg (.slice (some t) n es)=match cX reg 0 [.slice (some t) n es] with
  |([u],ts)=>(u,ts)
  |_=>(.undef,[]):=rfl
theorem LQ{α:Type}(g:α→Int):∀l:List α,kc [none] (l.map fun j=>[V.int .i64 (g j)])=some (l.map fun j=>[V.int .i64 (g j)])
 |[]=>rfl
 |a::l=>by simp[kc,nb,el,LQ g l]
theorem Il{sz:Nat}:∀(cs:List V) (off n:Nat),sz=1→off+n≤cs.length→chunks sz cs off n=((cs.drop off).take n).map fun v=>[v]
 |cs,off,0,_,_=>by simp[chunks]
 |cs,off,n+1,h,hn=>by
  subst h;rw[chunks,Il cs (off+1) n rfl (by omega),Ki (show off<cs.length by omega)]
  simp only[OH,Zb,oq]
@[simp] theorem azE{n:Nat}{f:Nat→Int}:kc [none] (chunks 1 (eS n f) 0 n)=some ((List.range n).map fun j=>[V.int .i64 (f j)]):=by
 rw[Il _ _ _ rfl (by simp)]
 rw[uY,akx,eS,wG];exact LQ f _
theorem Yl{n:Nat}:List.replicate n (V.int .i64 0)=eS n fun _=>0:=by
 rw[←Yg,rep]
@[simp] theorem azF{n:Nat}:(List.replicate n [V.int .i64 0]).flatten=eS n fun _=>0:=by
 rw[←Yg,rep];simp
@[simp] theorem azG{x y:Nat} :
  V.jD x y .undef=.undef ∧
  V.jD x y .cb=.cb ∧
  V.jD x y .gq=.gq ∧
  V.jD x y .gu=.gu ∧
  V.jD x y .gw=.gw:=by and_intros<;>rfl
@[simp] theorem azH{x:Nat} :
  V.forget x .undef=.undef ∧
  V.forget x .cb=.cb ∧
  V.forget x .gq=.gq ∧
  V.forget x .gu=.gu ∧
  V.forget x .gw=.gw:=by and_intros<;>rfl
@[simp] theorem azI{k:IntKind}{n:Int}{x y:Nat}:V.jD x y (.int k n)=.int k n:=rfl
@[simp] theorem azJ{k:IntKind}{n:Int}{x:Nat}:V.forget x (.int k n)=.int k n:=rfl
@[simp] theorem azK{b:Bool}{x y:Nat}:V.jD x y (.bool b)=.bool b:=rfl
@[simp] theorem azL{b:Bool}{x:Nat}:V.forget x (.bool b)=.bool b:=rfl
@[simp] theorem azM{s:List UInt8}{x y:Nat}:V.jD x y (.str s)=.str s:=rfl
@[simp] theorem azN{s:List UInt8}{x:Nat}:V.forget x (.str s)=.str s:=rfl
@[simp] theorem azO{z:Nat}{es:List (List V)}{x y:Nat}:V.jD x y (.slice none z es)=.slice none z es:=rfl
@[simp] theorem azP{z:Nat}{es:List (List V)}{x:Nat}:V.forget x (.slice none z es)=.slice none z es:=rfl
@[simp] theorem azQ{t z:Nat}{es:List (List V)}{x y:Nat}:V.jD x y (.slice (some t) z es:V)=.slice (some t) z es:=rfl
@[simp] theorem azR{t z:Nat}{es:List (List V)}{x:Nat}:V.forget x (.slice (some t) z es:V)=bif t==x then .slice none z es else .slice (some t) z es:=rfl
@[simp] theorem azS{cs:List V}{x y:Nat}:V.jD x y (.agg cs)=.agg cs:=rfl
@[simp] theorem azT{cs:List V}{x:Nat}:V.forget x (.agg cs)=.agg cs:=rfl
@[simp] theorem azU{vs:List V}{x y:Nat}:V.jD x y (.tuple vs)=.tuple vs:=rfl
@[simp] theorem azV{vs:List V}{x:Nat}:V.forget x (.tuple vs)=.tuple vs:=rfl
@[simp] theorem azW{r:List V}{o:Nat}{x y:Nat}:V.jD x y (.eP r o)=.eP r o:=rfl
@[simp] theorem azX{r:List V}{o:Nat}{x:Nat}:V.forget x (.eP r o)=.eP r o:=rfl
@[simp] theorem azY{i o:Nat}{x y:Nat} :
  V.jD x y (.bJ i o)=.bJ i o ∧
  V.jD x y (.bm i o)=.bm i o:=by and_intros<;>rfl
@[simp] theorem azZ{i o:Nat}{x:Nat} :
  V.forget x (.bJ i o)=.bJ i o ∧
  V.forget x (.bm i o)=.bm i o:=by and_intros<;>rfl
@[simp] theorem az0{i o l:Nat}{x y:Nat}:V.jD x y (.bR i o l)=bif i==x then .bR y o l else .bR i o l:=rfl
@[simp] theorem az1{i o l:Nat}{x:Nat}:V.forget x (.bR i o l)=.bR i o l:=rfl
@[simp] theorem az2{f:FuncId}{c:List V}{x y:Nat}:V.jD x y (.fn f c)=.fn f c:=rfl
@[simp] theorem az3{f:FuncId}{c:List V}{x:Nat}:V.forget x (.fn f c)=.fn f c:=rfl
@[simp] theorem az4{i:Nat}{x y:Nat}:V.jD x y (.map i)=.map i:=rfl
@[simp] theorem az5{i:Nat}{x:Nat}:V.forget x (.map i)=.map i:=rfl
@[simp] theorem sn0{i s n:Nat}{d:Nat} :
  V.cA d (.c5 i s n)=false ∧
  V.dF d (.c5 i s n)=false ∧
  V.cq d (.c5 i s n)=false:=by and_intros<;>rfl
@[simp] theorem sn1{i s n:Nat} :
  V.cL (.c5 i s n)=true ∧
  V.plain (.c5 i s n)=false ∧
  V.iG (.c5 i s n)=false ∧
  V.iS (.c5 i s n)=false ∧
  V.lone (.c5 i s n)=false ∧
  V.cells (.c5 i s n)=[.c5 i s n] ∧
  gV (.c5 i s n)=.c5 i s n ∧
  strip (.c5 i s n)=.c5 i s n ∧
  V.jr (.c5 i s n)=.c5 i s n ∧
  V.kQ (.c5 i s n)=.c5 i s n:=by and_intros<;>rfl
@[simp] theorem sn2{i s n:Nat}{x y:Nat}:V.jD x y (.c5 i s n)=.c5 i s n:=rfl
@[simp] theorem sn3{i s n:Nat}{x:Nat}:V.forget x (.c5 i s n)=.c5 i s n:=rfl
@[simp] theorem sn4{reg:List (Nat×Nat)}{j:Nat}{us:List V}{i s n:Nat}:cX reg j ((.c5 i s n)::us)=(strip (.c5 i s n)::(cX reg (j+1) us).1,(cX reg (j+1) us).2):=rfl
@[simp] theorem sn5{reg:List (Nat×Nat)}{i s n:Nat}:recv reg (.c5 i s n)=(strip (.c5 i s n),[]):=rfl
@[simp] theorem sn6{i s o n:Nat}{d:Nat} :
  V.cA d (.fp i s o n)=(i==d) ∧
  V.dF d (.fp i s o n)=(i==d) ∧
  V.cq d (.fp i s o n)=(i==d):=by and_intros<;>rfl
@[simp] theorem sn7{i s o n:Nat} :
  V.cL (.fp i s o n)=true ∧
  V.plain (.fp i s o n)=false ∧
  V.iG (.fp i s o n)=false ∧
  V.iS (.fp i s o n)=false ∧
  V.lone (.fp i s o n)=false ∧
  V.cells (.fp i s o n)=[.fp i s o n] ∧
  gV (.fp i s o n)=.fp i s o n ∧
  strip (.fp i s o n)=.fp i s o n ∧
  V.jr (.fp i s o n)=.fp i s o n ∧
  V.kQ (.fp i s o n)=.fp i s o n:=by and_intros<;>rfl
@[simp] theorem sn8{i s o n:Nat}{x y:Nat}:V.jD x y (.fp i s o n)=.fp i s o n:=rfl
@[simp] theorem sn9{i s o n:Nat}{x:Nat}:V.forget x (.fp i s o n)=.fp i s o n:=rfl
@[simp] theorem aAg{reg:List (Nat×Nat)}{j:Nat}{us:List V}{i s o n:Nat}:cX reg j ((.fp i s o n)::us)=(strip (.fp i s o n)::(cX reg (j+1) us).1,(cX reg (j+1) us).2):=rfl
@[simp] theorem aAh{reg:List (Nat×Nat)}{i s o n:Nat}:recv reg (.fp i s o n)=(strip (.fp i s o n),[]):=rfl
@[simp] theorem aAi{i s o n:Nat}{d:Nat} :
  V.cA d (.g9 i s o n)=false ∧
  V.dF d (.g9 i s o n)=false ∧
  V.cq d (.g9 i s o n)=false:=by and_intros<;>rfl
@[simp] theorem aAj{i s o n:Nat} :
  V.cL (.g9 i s o n)=true ∧
  V.plain (.g9 i s o n)=false ∧
  V.iG (.g9 i s o n)=false ∧
  V.iS (.g9 i s o n)=false ∧
  V.lone (.g9 i s o n)=false ∧
  V.cells (.g9 i s o n)=[.g9 i s o n] ∧
  gV (.g9 i s o n)=.g9 i s o n ∧
  strip (.g9 i s o n)=.g9 i s o n ∧
  V.jr (.g9 i s o n)=.g9 i s o n ∧
  V.kQ (.g9 i s o n)=.g9 i s o n:=by and_intros<;>rfl
@[simp] theorem aAk{i s o n:Nat}{x y:Nat}:V.jD x y (.g9 i s o n)=.g9 i s o n:=rfl
@[simp] theorem aAl{i s o n:Nat}{x:Nat}:V.forget x (.g9 i s o n)=.g9 i s o n:=rfl
@[simp] theorem aAm{i n:Nat}:V.part (.c5 i 1 n)=some (i,0,n):=rfl
@[simp] theorem aAn{i o n:Nat}:V.part (.g9 i 1 o n)=some (i,o,n):=rfl
@[simp] theorem aAo{G:List aS}{i o n:Nat}:Hb G (some (i,o,n))=match G[i]? with
  |some (.cells cs)=>bif Nat.ble (o+n) cs.length&&Nat.blt 0 n then some (G.set i (.cells (iF cs o (List.replicate n (.int .i64 0))))) else none
  |_=>none:=rfl
def dD(l:List Int):List V:=l.map fun n=>.int .i64 n
@[simp] theorem akN{l:List Int}:(dD l).length=l.length:=by simp[dD]
@[simp] theorem aAp{l:List Int}{i:Nat}{v:Int}:(dD l).set i (.int .i64 v)=dD (l.set i v):=by simp[dD]
theorem l8{l:List Int}{i:Nat}(h:i<l.length):(dD l)[i]?=some (.int .i64 (nth l i)):=by simp[dD,ei h]
@[simp] theorem Ym{l:List Int}{d:Nat}:(dD l).all (fun v => !v.cA d)=true:=by simp[dD,V.cA]
@[simp] theorem Yn{l:List Int}:(l.map fun n=>[V.int .i64 n]).flatten=dD l:=by
 induction l with
 |nil=>rfl
 |cons a l ih=>simp only[oq,ue,ih];rfl
@[simp] theorem LR{l:List Int}{n:Nat}(h:n=l.length):kc [none] (chunks 1 (dD l) 0 n)=some (l.map fun n=>[V.int .i64 n]):=by
 subst h;rw[Il _ _ _ rfl (by simp)]
 rw[uY,mo (by simp),dD,wG]
 exact LQ (fun n=>n) l
@[simp] theorem aAq{l m:List Int}:dD l++dD m=dD (l++m):=by simp[dD]
@[simp] theorem aAr{l:List Int}{a:Int}:dD l++[V.int .i64 a]=dD (l++[a]):=by simp[dD]
def kp{α:Type}(o:Option α)(s:Nat)(r:List (Nat×α)):List (Nat×α):=match o with
 |some v=>(s,v)::r
 |none=>r
@[simp] theorem aAs{α:Type}{v:α}{s:Nat}{r:List (Nat×α)}:kp (some v) s r=(s,v)::r:=rfl
@[simp] theorem aAt{α:Type}{s:Nat}{r:List (Nat×α)}:kp none s r=r:=rfl
@[simp low] theorem aAu{α:Type}{env:List (Nat×α)}{s:Nat}{l:List Nat}:vp env (s::l)=kp (look s env) s (vp env l):=by
 simp only[vp];cases look s env<;>rfl
@[simp low] theorem aAv{α:Type}{env:List (Nat×α)}:vp env []=[]:=rfl
attribute [simp] Cy mH St.take St.xZ oz bH.run VO.run St.ev ql St.put V.bin Ha St.keep wS wR A6 A5 nL qj uh el nb
 jC.fits St.nJ loadAt St.fits iF ni pM nh A3 V.un KG St.ka sn vm pL CA St.oT gP.run St.rows St.iR St.KH St.sk St.sj St.share St.wP St.A1 St.A2 St.Eo wQ St.y9
@[simp] theorem akO{a b:Nat}:Nat.ble a b=decide (a≤b):=by
 by_cases h:a≤b
 ·simp[h,Nat.ble_eq]
 ·simp only[h,decide_false]
  exact J7.2 (fun e=>h (il e))
@[simp] theorem aAw{a b:Nat}:Nat.blt a b=decide (a<b):=by
 rw[Nat.blt,akO];rfl
attribute [simp] GR xV
theorem Fe{G r:List aS}{a:aS}:(G++a::r)[G.length]?=some a:=by simp
theorem Yo{G r:List aS}{a b:aS}:(G++a::b::r)[G.length+1]?=some b:=by
 rw[qg (by omega)];simp
def xo(S:St)(ids:List Nat)(rs sh:Sh):Option V→Option V
 |some (.bR id s n)=>S.Cz ids rs id s n
 |some (.fp id s off n)=>S.A4 ids rs id s off n
 |some v=>pM sh v
 |none=>none
@[simp] theorem aAx{S:St}{ids:List Nat}:lK S ids []=some []:=rfl
@[simp] theorem aAy{S:St}{ids:List Nat}{rs sh:Sh}{x:bw}{xs:List (Sh×Sh×bw)}:lK S ids ((rs,sh,x)::xs)=match xo S ids rs sh (S.ev x),lK S ids xs with
  |some u,some us=>some (u::us)
  |_,_=>none:=by
 simp only[lK];rcases S.ev x with _|v
 ·rfl
 ·cases v<;>rfl
@[simp] theorem aAz{S:St}{ids:List Nat}{rs sh:Sh}{id s n:Nat}:xo S ids rs sh (some (.bR id s n))=bif ids.contains id then (match S.sk rs (.bR id s n) with|some es=>some (V.slice none rs.length es)|none=>none) else none:=rfl
@[simp] theorem aAA{S:St}{ids:List Nat}{rs sh:Sh}{f:FuncId}{c:List V}:xo S ids rs sh (some (.fn f c))=pM sh (.fn f c):=rfl
@[simp] theorem aAB{S:St}{ids:List Nat}{rs sh:Sh}{id s off n:Nat}:xo S ids rs sh (some (.fp id s off n))=bif ids.contains id then (match look id S.aW with
  |some cs=>bif (s==rs.length)&&Nat.blt 0 rs.length&&Nat.ble (off*rs.length+n*rs.length) cs.length then (match kc rs (chunks rs.length cs (off*rs.length) n) with|some es=>some (V.slice none rs.length es)|none=>none) else none
  |none=>none) else none:=rfl
@[simp] theorem aAC{S:St}{ids:List Nat}{rs sh:Sh}{k:IntKind}{n:Int}:xo S ids rs sh (some (.int k n))=pM sh (.int k n):=rfl
@[simp] theorem aAD{S:St}{ids:List Nat}{rs sh:Sh}{b:Bool}:xo S ids rs sh (some (.bool b))=pM sh (.bool b):=rfl
@[simp] theorem aAE{S:St}{ids:List Nat}{rs sh:Sh}{s:List UInt8}:xo S ids rs sh (some (.str s))=pM sh (.str s):=rfl
@[simp] theorem aAF{S:St}{ids:List Nat}{rs sh:Sh}:xo S ids rs sh (some .cb)=pM sh .cb:=rfl
@[simp] theorem aAG{S:St}{ids:List Nat}{rs sh:Sh}{t:Option Nat}{n:Nat}{es:List (List V)}:xo S ids rs sh (some (.slice t n es))=pM sh (.slice t n es):=rfl
@[simp] theorem aAH{S:St}{ids:List Nat}{rs sh:Sh}{n:Nat}:xo S ids rs sh (some (.dY n))=pM sh (.dY n):=rfl
@[simp] theorem aAI{S:St}{ids:List Nat}{rs sh:Sh}{cs:List V}:xo S ids rs sh (some (.agg cs))=pM sh (.agg cs):=rfl
def QG(L:bD)(d:Option Nat)(S:St)(os:List bH)(keep:df)(k:cE):V×List aS→Prop:=fun r=>r.1.qk=true∧eb L os keep k (S.put d r.1)
@[simp] theorem akP{L:bD}{d:Option Nat}{S:St}{os:List bH}{keep:df}{k:cE}{r:V}{G:List aS}:QG L d S os keep k (r,G)=(r.qk=true∧eb L os keep k (S.put d r)):=rfl
def Yp(L:bD)(d:Option Nat)(g:FuncId)(S:St)(os:List bH)(keep:df)(k:cE):List V→Prop:=fun vs=>cQ (L g vs []) (QG L d S os keep k)
@[simp] theorem akQ{L:bD}{d:Option Nat}{g:FuncId}{S:St}{os:List bH}{keep:df}{k:cE}{vs:List V}:Yp L d g S os keep k vs=cQ (L g vs []) (QG L d S os keep k):=rfl
@[simp high] theorem aAJ{L:bD}{d:Option Nat}{g:FuncId}{args:List (Sh×Sh×bw)}{ids:List Nat}{os:List bH}{keep:df}{k:cE}{S:St} :
  eb L (⟨d,.se (.c (.fn g [])) args ids,none⟩::os) keep k S=cQ (lK S ids args) (Yp L d g S os keep k):=by
 rw[iU];simp only[bH.run,VO.run,St.ev];cases lK S ids args with
 |none=>simp[cQ]
 |some vs =>
  simp only[uD,akQ];rcases L g vs []with _ | ⟨r,G⟩
  ·simp[cQ]
  ·simp only[uD,akP]
   cases r.qk<;>simp[cQ]
@[simp high] theorem aAK{L:bD}{d:Option Nat}{f:bw}{args:List (Sh×Sh×bw)}{ids:List Nat}{g:Nat}{w:Bool}{os:List bH}{keep:df}{k:cE}{S:St} :
  eb L (⟨d,.se f args ids,some (g,w)⟩::os) keep k S=kG w (look g S.env) (eb L (⟨d,.se f args ids,none⟩::os) keep k S) (eb L os keep k (S.put d .undef)):=by
 rw[iU,iU];simp only[bH.run];rcases look g S.env with _|v
 ·simp[cQ,kG]
 ·cases v with
  |bool b=>simp only[kG];cases b==w<;>simp
  |undef=>simp[kG]
  |_=>simp[cQ,kG]
@[simp] theorem aAL{k:IntKind}{n:Int}:V.qk (.int k n)=true:=rfl
@[simp] theorem aAM{b:Bool}:V.qk (.bool b)=true:=rfl
@[simp] theorem aAN{s:List UInt8}:V.qk (.str s)=true:=rfl
attribute [simp] V.qk V.sc
end Go.Vm
