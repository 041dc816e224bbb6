/- The value machine, 22: weakest preconditions of the evaluator. -/
import Derived.Test.YtmpikpodpgnjhaaGreatVmI
namespace Go.Vm
set_option linter.all false
def cN{α:Type}(o:Option α)(P:α→Prop):Prop:=∃a,o=some a∧P a
@[congr] theorem akT{α:Type}{o o':Option α}{P:α→Prop}(h:o=o'):cN o P=cN o' P:=by rw[h]
@[simp] theorem rz{α:Type}{a:α}{P:α→Prop}:cN (some a) P=P a:=by simp[cN]
theorem akU{α:Type}{o:Option α}{a:α}{P:α→Prop}(h:o=some a)(hp:P a):cN o P:=⟨a,h,hp⟩
def sB(o:Option V)(A B:Prop):Prop:=∃t,o=some (.bool t)∧(bif t then A else B)
@[congr] theorem akV{o o':Option V}{A B:Prop}(h:o=o'):sB o A B=sB o' A B:=by rw[h]
@[simp] theorem akW{A B:Prop}:sB (some (.bool true)) A B=A:=by simp[sB]
@[simp] theorem akX{A B:Prop}:sB (some (.bool false)) A B=B:=by simp[sB]
theorem b9{p:Prop}{dp:Decidable p}{A B:Prop}(ha:p→A)(hb:¬p→B):sB (some (.bool (decide p))) A B:=by
 by_cases h:p
 ·simpa [h] using ha h
 ·simpa [h] using hb h
theorem gV{t:Bool}{A B:Prop}(ha:t=true→A)(hb:t=false→B):sB (some (.bool t)) A B:=by
 cases t
 ·simpa using hb rfl
 ·simpa using ha rfl
abbrev cH:=nU→St→Prop
def go(L:bC)(c:VC)(S:St)(k:cH):Prop:=∃n e T,VC.run L n c S=some (e,T)∧k e T
@[congr] theorem go_congr{L:bC}{c:VC}{S S':St}{k:cH}(h:S=S'):go L c S k=go L c S' k:=by rw[h]
theorem uG{L:bC}{n m:Nat}(h:n≤m){c:VC}{S:St}{x:nU×St}(hr:VC.run L n c S=some x):VC.run L m c S=some x :=
 w9 (fun _ _ _ _ h=>h) h hr
theorem go.mono{L:bC}{c:VC}{S:St}{k k':cH}(h:go L c S k)(hk:∀e T,k e T→k' e T):go L c S k':=by
 obtain⟨n,e,T,h1,h2⟩:=h;exact⟨n,e,T,h1,hk _ _ h2⟩
def sq(L:bC)(b:VC)(k:cH):cH:=fun e T=>match e with
 |.normal=>go L b T k
 |.exit i=>k (.exit i) T
 |.ret=>k .ret T
@[simp] theorem akY{L:bC}{b:VC}{k:cH}{T:St}:sq L b k .normal T=go L b T k:=rfl
@[simp] theorem akZ{L:bC}{b:VC}{k:cH}{i:Nat}{T:St}:sq L b k (.exit i) T=k (.exit i) T:=rfl
@[simp] theorem ak0{L:bC}{b:VC}{k:cH}{T:St}:sq L b k .ret T=k .ret T:=rfl
def bk(id:Nat)(k:cH):cH:=fun e T=>match e with
 |.normal=>k .normal T
 |.exit i=>bif i==id then k .normal T else k (.exit i) T
 |.ret=>k .ret T
@[simp] theorem ak1{id:Nat}{k:cH}{T:St}:bk id k .normal T=k .normal T:=rfl
def C0(b:Bool)(k:cH)(i:Nat)(T:St):Prop:=bif b then k .normal T else k (.exit i) T
@[congr] theorem ak2{b b':Bool}{k:cH}{i:Nat}{T:St}(h:b=b'):C0 b k i T=C0 b' k i T:=by rw[h]
@[simp] theorem ak3{k:cH}{i:Nat}{T:St}:C0 true k i T=k .normal T:=rfl
@[simp] theorem ak4{k:cH}{i:Nat}{T:St}:C0 false k i T=k (.exit i) T:=rfl
@[simp] theorem ak5{id:Nat}{k:cH}{i:Nat}{T:St}:bk id k (.exit i) T=C0 (i==id) k i T:=rfl
@[simp] theorem ak6{id:Nat}{k:cH}{T:St}:bk id k .ret T=k .ret T:=rfl
def eb(L:bC)(os:List bI)(keep:c9)(k:cH):St→Prop:=fun S=>∃T,gQ L os S=some T∧k .normal (T.keep keep)
@[congr] theorem ak7{L:bC}{os:List bI}{keep:c9}{k:cH}{S S':St}(h:S=S'):eb L os keep k S=eb L os keep k S':=by rw[h]
@[simp] theorem ak8{L:bC}{keep:c9}{k:cH}{S:St}:eb L [] keep k S=k .normal (S.keep keep):=by simp[eb,gQ]
@[simp] theorem ak9{L:bC}{d:Option Nat}{op:VO}{os:List bI}{keep:c9}{k:cH}{S:St}:eb L (⟨d,op,none⟩::os) keep k S=cN (op.run L d S) (eb L os keep k):=by
 unfold eb cN;simp only[gQ,bI.run];cases op.run L d S<;>simp
theorem iB{L:bC}{o:bI}{os:List bI}{keep:c9}{k:cH}{S:St}:eb L (o::os) keep k S=cN (o.run L S) (eb L os keep k):=by
 unfold eb cN;simp only[gQ];cases o.run L S<;>simp
def ky{α:Type}(c:Bool)(a b:α):α:=bif c then a else b
@[congr] theorem ala{α:Type}{c c':Bool}{a a' b b':α}(hc:c=c')(ha:c'=true→a=a')(hb:c'=false→b=b'):ky c a b=ky c' a' b':=by
 subst hc;cases c
 ·exact hb rfl
 ·exact ha rfl
@[congr] theorem alb{α:Type}{p q:Prop}{dp:Decidable p}[dq:Decidable q]{a a' b b':α}(hc:p=q)(ha:q→a=a')(hb:¬q→b=b'):@ky α (@decide p dp) a b=ky (decide q) a' b':=by
 subst hc;by_cases h:p
 ·simp[ky,h,ha h]
 ·simp[ky,h,hb h]
theorem eQ{a b:Int}:(a==b)=decide (a=b):=by by_cases h:a=b<;>simp[h]
theorem eR{a b:Int}:(a != b) = !decide (a=b):=by by_cases h:a=b<;>simp[h]
theorem eS{α:Type}{p:Prop}{dp:Decidable p}{a b:α}(h:p):(bif decide p then a else b)=a:=by simp[h]
@[simp] theorem alc{k:Int}:decide (k≤(lim:Int))=decide (k≤4294967296):=rfl
@[simp] theorem ald{k:Nat}:decide (k≤lim)=decide (k≤4294967296):=rfl
theorem eT{α:Type}{p q:Prop}{dp:Decidable p}{dq:Decidable q}{a b:α}(h:p∧q):(bif decide p&&decide q then a else b)=a:=by simp[h.1,h.2]
@[simp] theorem ale{α:Type}{a b:α}:ky true a b=a:=rfl
@[simp] theorem alf{α:Type}{a b:α}:ky false a b=b:=rfl
@[simp] theorem alg{α:Type}{c:Bool}{a b:α}:ky (!c) a b=ky c b a:=by cases c<;>rfl
@[simp] theorem alh{α:Type}{c:Bool}{a b:α}:ky c (some a) (some b)=some (ky c a b):=by cases c<;>rfl
@[simp] theorem ali{c a b:Bool}:ky c (V.bool a) (V.bool b)=V.bool (bif c then a else b):=by cases c<;>rfl
def jt(o:Option V)(w:Bool)(x:Option V):Option V :=
 match o with
 |some (.bool b)=>bif b==w then x else some .undef
 |some .undef=>some .undef
 |_=>none
@[simp] theorem alj{b:Bool}{x:Option V}:jt (some (.bool b)) true x=ky b x (some .undef):=by cases b<;>rfl
@[simp] theorem alk{b:Bool}{x:Option V}:jt (some (.bool b)) false x=ky b (some .undef) x:=by cases b<;>rfl
@[simp] theorem alm{w:Bool}{x:Option V}:jt (some .undef) w x=some .undef:=rfl
@[simp] theorem aln{c b w:Bool}{v:V}{x:Option V}:jt (some (ky c (.bool b) v)) w x=ky c (jt (some (.bool b)) w x) (jt (some v) w x):=by cases c<;>rfl
@[simp] theorem alo{c b w:Bool}{v:V}{x:Option V}:jt (some (ky c v (.bool b))) w x=ky c (jt (some v) w x) (jt (some (.bool b)) w x):=by cases c<;>rfl
def vz(t:Option V)(x y:Option V):Option V:=match t with
 |some (.bool b)=>ky b x y
 |_=>none
@[simp] theorem alp{b:Bool}{x y:Option V}:vz (some (.bool b)) x y=ky b x y:=rfl
def kc(L:bC)(d:Nat)(S:St)(os:List bI)(keep:c9)(k:cH):V→Prop:=fun v=>eb L os keep k (S.put (some d) v)
@[simp] theorem alq{L:bC}{d:Nat}{S:St}{os:List bI}{keep:c9}{k:cH}{v:V}:kc L d S os keep k v=eb L os keep k { S with env:=(d,v)::S.env }:=rfl
theorem nz{L:bC}{d g:Nat}{w:Bool}{op:VO}{x:Option V}{S:St}{os:List bI}{keep:c9}{k:cH}(aj:op.run L (some d) S=x.map (S.put (some d))) :
  cN (bI.run L ⟨some d,op,some (g,w)⟩ S) (eb L os keep k)=cN (jt (look g S.env) w x) (kc L d S os keep k):=by
 unfold bI.run jt;simp only;cases look g S.env with
 |none=>simp[cN]
 |some v =>
  cases v with
  |bool b =>
   simp only[aj];cases b==w with
   |true=>cases x<;>simp[cN,kc]
   |false=>simp[cN,kc]
  |undef=>simp[cN,kc]
  |_=>simp[cN]
@[simp high] theorem alr{L:bC}{d:Nat}{c a b:bB}{os:List bI}{keep:c9}{k:cH}{S:St} :
  eb L (⟨some d,.pick c a b,none⟩::os) keep k S=cN (vz (S.ev c) (S.ev a) (S.ev b)) (kc L d S os keep k):=by
 rw[iB];simp only[bI.run,VO.run];rcases S.ev c with _|v
 ·simp[cN,vz]
 ·cases v with
  |bool t =>
   cases t
   ·simp only[vz,ky,cond_false]
    cases S.ev b<;>simp[cN,kc]
   ·simp only[vz,ky,cond_true]
    cases S.ev a<;>simp[cN,kc]
  |_=>simp[cN,vz]
@[simp] theorem als{L:bC}{d g:Nat}{w:Bool}{x:bB}{os:List bI}{keep:c9}{k:cH}{S:St} :
  eb L (⟨some d,.mv x,some (g,w)⟩::os) keep k S=cN (jt (look g S.env) w (S.ev x)) (kc L d S os keep k):=by
 rw[iB];refine nz ?_;simp only[VO.run]
 repeat' split
 all_goals (first|rfl|simp_all[St.put])
@[simp] theorem alu{L:bC}{d g:Nat}{w:Bool}{c a b:bB}{os:List bI}{keep:c9}{k:cH}{S:St} :
  eb L (⟨some d,.pick c a b,some (g,w)⟩::os) keep k S=cN (jt (look g S.env) w (vz (S.ev c) (S.ev a) (S.ev b))) (kc L d S os keep k):=by
 rw[iB];refine nz ?_;simp only[VO.run];rcases S.ev c with _|v
 ·rfl
 ·cases v with
  |bool t =>
   cases t
   ·simp only[vz,ky,cond_false]
    cases S.ev b<;>rfl
   ·simp only[vz,ky,cond_true]
    cases S.ev a<;>rfl
  |_=>rfl
@[simp] theorem alv{L:bC}{d g:Nat}{w:Bool}{z:List V}{ps:List (Nat×Nat×bB)}{os:List bI}{keep:c9}{k:cH}{S:St} :
  eb L (⟨some d,.build z ps,some (g,w)⟩::os) keep k S=cN (jt (look g S.env) w (match pI S ps z with|some cs=>some (.agg cs)|none=>none)) (kc L d S os keep k):=by
 rw[iB];refine nz ?_;simp only[VO.run]
 repeat' split
 all_goals (first|rfl|simp_all[St.put])
@[simp] theorem alw{L:bC}{d g:Nat}{w:Bool}{r:jB}{z:Option Nat}{p:bB}{os:List bI}{keep:c9}{k:cH}{S:St} :
  eb L (⟨some d,.load r z p,some (g,w)⟩::os) keep k S=cN (jt (look g S.env) w (match S.ev p with|some v=>bif r.fits v then (match S.nb v with|some (cs,off)=>(loadAt z cs off).map (xH r)|none=>none) else none|none=>none)) (kc L d S os keep k):=by
 rw[iB];refine nz ?_;simp only[VO.run];rcases S.ev p with _|v
 ·rfl
 ·simp only
  cases r.fits v with
  |false=>rfl
  |true =>
   rcases S.nb v with _ | ⟨cs,off⟩
   ·rfl
   ·simp only[cond_true]
    rcases loadAt z cs off with _|u<;>rfl
@[simp] theorem alx{L:bC}{d g:Nat}{w:Bool}{x:bB}{os:List bI}{keep:c9}{k:cH}{S:St} :
  eb L (⟨some d,.qn x,some (g,w)⟩::os) keep k S=cN (jt (look g S.env) w (match S.ev x with|some (.bK i o)=>some (.bK i o)|some (.bN i o)=>some (.bN i o)|some (.fc r o)=>some (.fc r o)|_=>none)) (kc L d S os keep k):=by
 rw[iB];refine nz ?_;simp only[VO.run]
 repeat' split
 all_goals (first|rfl|simp_all[St.put])
@[simp] theorem aly{L:bC}{d g:Nat}{w:Bool}{o:BinOp}{x y:bB}{os:List bI}{keep:c9}{k:cH}{S:St} :
  eb L (⟨some d,.bin o x y,some (g,w)⟩::os) keep k S=cN (jt (look g S.env) w (match S.ev x,S.ev y with|some a,some b=>V.bin o a b|_,_=>none)) (kc L d S os keep k):=by
 rw[iB];refine nz ?_;simp only[VO.run]
 repeat' split
 all_goals (first|rfl|simp_all[St.put])
@[simp] theorem alz{L:bC}{d g:Nat}{w:Bool}{n:Bool}{x y:bB}{os:List bI}{keep:c9}{k:cH}{S:St} :
  eb L (⟨some d,.beq n x y,some (g,w)⟩::os) keep k S=cN (jt (look g S.env) w (match S.ev x,S.ev y with|some (.bool a),some (.bool b)=>some (.bool (bif n then a != b else a==b))|_,_=>none)) (kc L d S os keep k):=by
 rw[iB];refine nz ?_;simp only[VO.run]
 repeat' split
 all_goals (first|rfl|simp_all[St.put])
@[simp] theorem alA{L:bC}{d g:Nat}{w:Bool}{n:Bool}{ks:List Nat}{x y:bB}{os:List bI}{keep:c9}{k:cH}{S:St} :
  eb L (⟨some d,.gX n ks x y,some (g,w)⟩::os) keep k S=cN (jt (look g S.env) w (match S.ev x,S.ev y with|some a,some b=>V.gX n ks a b|_,_=>none)) (kc L d S os keep k):=by
 rw[iB];refine nz ?_;simp only[VO.run]
 repeat' split
 all_goals (first|rfl|simp_all[St.put])
@[simp] theorem alB{L:bC}{d g:Nat}{w:Bool}{o:UnOp}{x:bB}{os:List bI}{keep:c9}{k:cH}{S:St} :
  eb L (⟨some d,.un o x,some (g,w)⟩::os) keep k S=cN (jt (look g S.env) w (match S.ev x with|some a=>V.un o a|none=>none)) (kc L d S os keep k):=by
 rw[iB];refine nz ?_;simp only[VO.run]
 repeat' split
 all_goals (first|rfl|simp_all[St.put])
@[simp] theorem alC{L:bC}{d g:Nat}{w:Bool}{kk:IntKind}{x:bB}{os:List bI}{keep:c9}{k:cH}{S:St} :
  eb L (⟨some d,.conv kk x,some (g,w)⟩::os) keep k S=cN (jt (look g S.env) w (match S.ev x with|some (.int _ n)=>some (.int kk (kk.wrap n))|_=>none)) (kc L d S os keep k):=by
 rw[iB];refine nz ?_;simp only[VO.run]
 repeat' split
 all_goals (first|rfl|simp_all[St.put])
@[simp] theorem alD{L:bC}{d g:Nat}{w:Bool}{n:Nat}{x:bB}{os:List bI}{keep:c9}{k:cH}{S:St} :
  eb L (⟨some d,.qX n x,some (g,w)⟩::os) keep k S=cN (jt (look g S.env) w (match S.ev x with|some (.bK i o)=>some (.bK i (o+n))|some (.bN i o)=>some (.bN i (o+n))|some (.fc r o)=>some (.fc r (o+n))|_=>none)) (kc L d S os keep k):=by
 rw[iB];refine nz ?_;simp only[VO.run]
 repeat' split
 all_goals (first|rfl|simp_all[St.put])
@[simp] theorem alE{L:bC}{d g:Nat}{w:Bool}{x:bB}{os:List bI}{keep:c9}{k:cH}{S:St} :
  eb L (⟨some d,.len x,some (g,w)⟩::os) keep k S=cN (jt (look g S.env) w (match S.ev x with|some .aK=>some (.int .i64 0)|some (.dZ _)=>some (.int .i64 0)|some (.fD _)=>some (.int .i64 0)|some (.slice _ _ es)=>some (.int .i64 es.length)|some (.b0 _ _ n)=>some (.int .i64 n)|some (.dB _ _ n)=>some (.int .i64 n)|_=>none)) (kc L d S os keep k):=by
 rw[iB];refine nz ?_;simp only[VO.run]
 repeat' split
 all_goals (first|rfl|simp_all[St.put])
@[simp] theorem alF{L:bC}{d g:Nat}{w:Bool}{x:bB}{os:List bI}{keep:c9}{k:cH}{S:St} :
  eb L (⟨some d,.s7 x,some (g,w)⟩::os) keep k S=cN (jt (look g S.env) w (match S.ev x with|some (.str s)=>some (.int .i64 s.length)|_=>none)) (kc L d S os keep k):=by
 rw[iB];refine nz ?_;simp only[VO.run]
 repeat' split
 all_goals (first|rfl|simp_all[St.put])
@[simp] theorem alG{L:bC}{d g:Nat}{w:Bool}{x:bB}{i:Nat}{os:List bI}{keep:c9}{k:cH}{S:St} :
  eb L (⟨some d,.ext x i,some (g,w)⟩::os) keep k S=cN (jt (look g S.env) w (match S.ev x with|some (.tuple vs)=>vs[i]? | _=>none)) (kc L d S os keep k):=by
 rw[iB];refine nz ?_;simp only[VO.run]
 repeat' split
 all_goals (first|rfl|simp_all[St.put])
@[simp] theorem alH{L:bC}{d g:Nat}{w:Bool}{n:Nat}{z:Option Nat}{x:bB}{os:List bI}{keep:c9}{k:cH}{S:St} :
  eb L (⟨some d,.field n z x,some (g,w)⟩::os) keep k S=cN (jt (look g S.env) w (match S.ev x with|some (.agg cs)=>loadAt z cs n|_=>none)) (kc L d S os keep k):=by
 rw[iB];refine nz ?_;simp only[VO.run]
 repeat' split
 all_goals (first|rfl|simp_all[St.put])
@[simp] theorem alI{L:bC}{d g:Nat}{w:Bool}{m:Bool}{x y:bB}{os:List bI}{keep:c9}{k:cH}{S:St} :
  eb L (⟨some d,.mm m x y,some (g,w)⟩::os) keep k S=cN (jt (look g S.env) w (match S.ev x,S.ev y with|some (.int k a),some (.int _ b)=>some (.int k (bif m then max a b else min a b))|_,_=>none)) (kc L d S os keep k):=by
 rw[iB];refine nz ?_;simp only[VO.run];rcases S.ev x with _|a
 ·rfl
 ·rcases S.ev y with _|b
  ·cases a<;>rfl
  ·cases a<;>cases b<;>rfl
@[simp] theorem alJ{L:bC}{d g:Nat}{w:Bool}{m:Bool}{x y z:bB}{os:List bI}{keep:c9}{k:cH}{S:St} :
  eb L (⟨some d,.rT m x y z,some (g,w)⟩::os) keep k S=cN (jt (look g S.env) w (match S.ev x,S.ev y,S.ev z with|some (.int k a),some (.int _ b),some (.int _ c)=>some (.int k (bif m then max (max a b) c else min (min a b) c))|_,_,_=>none)) (kc L d S os keep k):=by
 rw[iB];refine nz ?_;simp only[VO.run];rcases S.ev x with _|a
 ·rfl
 ·rcases S.ev y with _|b
  ·cases a<;>rfl
  ·rcases S.ev z with _|c
   ·cases a<;>cases b<;>rfl
   ·cases a<;>cases b<;>cases c<;>rfl
@[simp] theorem alK{L:bC}{d g:Nat}{w:Bool}{n z:Nat}{a:Bool}{x i:bB}{os:List bI}{keep:c9}{k:cH}{S:St} :
  eb L (⟨some d,.idx n z a x i,some (g,w)⟩::os) keep k S=cN (jt (look g S.env) w (match S.ev x,S.ev i with|some (.agg cs),some (.int _ k)=>bif decide (0≤k)&&decide (k<n) then loadAt (bif a then some z else none) cs (k.toNat*z) else none|_,_=>none)) (kc L d S os keep k):=by
 rw[iB];refine nz ?_;simp only[VO.run];rcases S.ev x with _|v
 ·rfl
 ·rcases S.ev i with _|j
  ·cases v<;>rfl
  ·cases v with
   |agg cs =>
    cases j with
    |int kk m =>
     simp only;cases (decide (0≤m)&&decide (m<n)) with
     |false=>rfl
     |true =>
      simp only[cond_true];rcases loadAt (bif a then some z else none) cs (m.toNat*z) with _|u<;>rfl
    |_=>rfl
   |_=>cases j<;>rfl
@[simp] theorem alL{L:bC}{d g:Nat}{w:Bool}{n:Nat}{x i:bB}{os:List bI}{keep:c9}{k:cH}{S:St} :
  eb L (⟨some d,.eh none n x i,some (g,w)⟩::os) keep k S=cN (jt (look g S.env) w (match S.ev x,S.ev i with
   |some (.slice _ m es),some (.int _ k)=>bif decide (0≤k)&&(m==n) then (match es[k.toNat]? with|some r=>some (.fc r 0)|none=>none) else none
   |some (.b0 id off ln),some (.int _ k)=>bif decide (0≤k)&&decide (k<ln)&&(off==n) then some (.bK id (k.toNat*n)) else none
   |some (.dB id off ln),some (.int _ k)=>bif decide (0≤k)&&decide (k<ln)&&(off==n) then some (.bN id (k.toNat*n)) else none
   |_,_=>none)) (kc L d S os keep k):=by
 rw[iB];refine nz ?_;simp only[VO.run];rcases S.ev x with _|v
 ·rfl
 ·rcases S.ev i with _|j
  ·cases v<;>rfl
  ·cases v with
   |slice t m es =>
    cases j with
    |int kk q =>
     simp only;cases (decide (0≤q)&&(m==n)) with
     |false=>rfl
     |true =>
      simp only[cond_true];rcases es[q.toNat]? with _|u<;>rfl
    |_=>rfl
   |b0 id off ln =>
    cases j with
    |int kk q =>
     simp only;cases (decide (0≤q)&&decide (q<ln)&&(off==n)) with
     |false=>rfl
     |true=>rfl
    |_=>rfl
   |dB id off ln =>
    cases j with
    |int kk q =>
     simp only;cases (decide (0≤q)&&decide (q<ln)&&(off==n)) with
     |false=>rfl
     |true=>rfl
    |_=>rfl
   |_=>cases j<;>rfl
def nth{α:Type}[Inhabited α](l:List α)(i:Nat):α:=l.getD i default
theorem bp{α:Type}[Inhabited α]{l:List α}{i:Nat}(h:i<l.length):l[i]?=some (nth l i):=by
 simp[nth,List.getD,h]
theorem eB{l:List Int}{i:Nat}(h:i<l.length):l[i]?=some (nth l i):=bp h
def lk{α:Type}(b:Bool)(v:α)(s:Nat)(r:List (Nat×α)):Option α:=bif b then some v else look s r
@[simp] theorem alM{α:Type}{s k:Nat}{v:α}{r:List (Nat×α)}:look s ((k,v)::r)=lk (k==s) v s r:=rfl
@[simp] theorem alN{α:Type}{s:Nat}:look s ([]:List (Nat×α))=none:=rfl
@[simp] theorem alO{α:Type}{s:Nat}{v:α}{r:List (Nat×α)}:lk true v s r=some v:=rfl
@[simp] theorem alP{α:Type}{s:Nat}{v:α}{r:List (Nat×α)}:lk false v s r=look s r:=rfl
def tC{α:Type}(d:Nat)(l:List (Nat×α)):List (Nat×α):=l.filter fun p => !(p.1==d)
def FM{α:Type}(b:Bool)(k:Nat)(v:α)(r:List (Nat×α)):List (Nat×α):=bif b then r else (k,v)::r
@[simp] theorem alQ{α:Type}{k:Nat}{v:α}{r:List (Nat×α)}:FM true k v r=r:=rfl
@[simp] theorem alR{α:Type}{k:Nat}{v:α}{r:List (Nat×α)}:FM false k v r=(k,v)::r:=rfl
@[simp] theorem alS{α:Type}{d:Nat}:tC d ([]:List (Nat×α))=[]:=rfl
@[simp] theorem alT{α:Type}{d k:Nat}{v:α}{r:List (Nat×α)}:tC d ((k,v)::r)=FM (k==d) k v (tC d r):=by
 unfold tC FM;cases h:k==d<;>simp[List.filter,h]
@[simp] theorem alU{α:Type}{d:Nat}{l:List (Nat×α)}:(l.filter fun p => !(p.1==d))=tC d l:=rfl
@[simp] theorem alV{S:St}:S.clean []=some S:=rfl
@[simp] theorem alW{S:St}{d:Nat}{ds:List Nat}:S.clean (d::ds)=bif ((tC d S.env).all fun p => !p.2.cu d)&&((tC d S.bb).all fun p=>p.2.all fun v => !v.cI d) then
  St.clean { env:=tC d S.env,bb:=tC d S.bb,bm:=tC d S.bm,az:=S.az } ds else none:=rfl
theorem C1{α β:Type}{a:α}{b:β}{k:α→β→Prop}:(∃e T,(a=e∧b=T)∧k e T)↔k a b :=
 ⟨fun⟨_,_,⟨h,h'⟩,hk⟩=>by subst h;subst h';exact hk,fun h=>⟨_,_,⟨rfl,rfl⟩,h⟩⟩
def Qg(L:bC)(ids:List Nat)(os:List bI)(keep:c9)(k:cH):St→Prop:=fun S=>cN (S.clean ids) (eb L os keep k)
@[simp] theorem Y3{L:bC}{ids:List Nat}{os:List bI}{keep:c9}{k:cH}{S:St}:Qg L ids os keep k S=cN (S.clean ids) (eb L os keep k):=rfl
@[simp] theorem alX{L:bC}{gh:List iR}{S:St}{k:cH}:go L (.uf gh) S k=cN (mL gh S) (k .ret):=by
 refine propext ⟨?_,?_⟩
 ·rintro⟨n,e,T,h,hk⟩
  simp only[VC.run]at h;split at h
  ·rename_i S' h1;cases h;exact⟨_,h1,hk⟩
  ·cases h
 ·rintro⟨S',h1,hk⟩
  exact⟨0,_,_,by simp only[VC.run,h1],hk⟩
@[simp] theorem alY{L:bC}{S:St}{k:cH}:go L .dead S k=False:=by simp[go,VC.run,C1]
@[simp] theorem go_skip{L:bC}{S:St}{k:cH}:go L .skip S k=k .normal S:=by simp[go,VC.run,C1]
@[simp] theorem alZ{L:bC}{S:St}{k:cH}{i:Nat}:go L (.exit i) S k=k (.exit i) S:=by simp[go,VC.run,C1]
@[simp] theorem go_ret{L:bC}{S:St}{k:cH}:go L .ret S k=k .ret S:=by simp[go,VC.run,C1]
@[simp] theorem go_region{L:bC}{gh:List iR}{ids:List Nat}{os:List bI}{keep:c9}{S:St}{k:cH} :
  go L (.region gh ids os keep) S k=cN (mL gh S) (Qg L ids os keep k):=by
 unfold go cN;simp only[VC.run,Y3];cases mL gh S with
 |none=>simp
 |some S1 =>
  simp only[Option.some.injEq,exists_eq_left',cN];cases S1.clean ids with
  |none=>simp
  |some S2 =>
   simp only[Option.some.injEq,exists_eq_left',eb];cases gQ L os S2 with
   |none=>simp
   |some S3=>simp[C1]
@[simp] theorem al0{L:bC}{a b:VC}{S:St}{k:cH}:go L (.seq a b) S k=go L a S (sq L b k):=by
 refine propext ⟨?_,?_⟩
 ·rintro⟨n,e,T,h,hk⟩
  simp only[VC.run]at h;split at h
  ·rename_i S' h1;exact⟨n,_,_,h1,n,_,_,h,hk⟩
  ·rename_i i S' h1;cases h;exact⟨n,_,_,h1,hk⟩
  ·rename_i S' h1;cases h;exact⟨n,_,_,h1,hk⟩
  ·cases h
 ·rintro⟨n,e,T,h,hk⟩
  cases e with
  |normal =>
   obtain⟨m,e,T',h',hk⟩:=hk;refine⟨n+m,e,T',?_,hk⟩;simp only[VC.run,uG (Nat.le_add_right n m) h,uG (Nat.le_add_left m n) h']
  |exit i=>exact⟨n,_,_,by simp only[VC.run,h],hk⟩
  |ret=>exact⟨n,_,_,by simp only[VC.run,h],hk⟩
@[simp] theorem al1{L:bC}{c:bB}{a b:VC}{S:St}{k:cH}:go L (.cond c a b) S k=sB (S.ev c) (go L a S k) (go L b S k):=by
 refine propext ⟨?_,?_⟩
 ·rintro⟨n,e,T,h,hk⟩
  simp only[VC.run]at h;split at h
  ·rename_i t hc
   refine⟨t,hc,?_⟩;cases t with
   |true=>exact⟨n,e,T,h,hk⟩
   |false=>exact⟨n,e,T,h,hk⟩
  ·cases h
 ·rintro⟨t,hc,h⟩
  cases t with
  |true=>obtain⟨n,e,T,h,hk⟩:=h;exact⟨n,e,T,by simp only[VC.run,hc,cond_true];exact h,hk⟩
  |false=>obtain⟨n,e,T,h,hk⟩:=h;exact⟨n,e,T,by simp only[VC.run,hc,cond_false];exact h,hk⟩
@[simp] theorem al2{L:bC}{id:Nat}{a:VC}{S:St}{k:cH}:go L (.block id a) S k=go L a S (bk id k):=by
 refine propext ⟨?_,?_⟩
 ·rintro⟨n,e,T,h,hk⟩
  simp only[VC.run]at h;split at h
  ·rename_i S' h1;cases h;exact⟨n,_,_,h1,hk⟩
  ·rename_i i S' h1
   refine⟨n,_,_,h1,?_⟩;cases hi:i==id with
   |true=>simp only[hi,cond_true]at h;cases h;simp only[bk,hi,cond_true];exact hk
   |false=>simp only[hi,cond_false]at h;cases h;simp only[bk,hi,cond_false];exact hk
  ·rename_i S' h1;cases h;exact⟨n,_,_,h1,hk⟩
  ·cases h
 ·rintro⟨n,e,T,h,hk⟩
  cases e with
  |normal=>exact⟨n,_,_,by simp only[VC.run,h],hk⟩
  |exit i =>
   cases hi:i==id with
   |true=>simp only[bk,hi,cond_true]at hk;exact⟨n,_,_,by simp only[VC.run,h,hi,cond_true],hk⟩
   |false=>simp only[bk,hi,cond_false]at hk;exact⟨n,_,_,by simp only[VC.run,h,hi,cond_false],hk⟩
  |ret=>exact⟨n,_,_,by simp only[VC.run,h],hk⟩
def FN{α:Type}(keep:c9)(st:α→St)(I:α→Prop)(mu:α→Nat)(m:Nat)(k:cH):cH:=fun e T=>match e with
 |.normal=>∃y,T.keep keep=st y∧I y∧mu y<m
 |.exit i=>k (.exit i) T
 |.ret=>k .ret T
@[simp] theorem al3{α:Type}{keep:c9}{st:α→St}{I:α→Prop}{mu:α→Nat}{m:Nat}{k:cH}{T:St}{i:Nat}:FN keep st I mu m k (.exit i) T=k (.exit i) T:=rfl
@[simp] theorem al4{α:Type}{keep:c9}{st:α→St}{I:α→Prop}{mu:α→Nat}{m:Nat}{k:cH}{T:St}:FN keep st I mu m k .ret T=k .ret T:=rfl
theorem cc{α:Type}{keep:c9}{st:α→St}{I:α→Prop}{mu:α→Nat}{m:Nat}{k:cH}{T:St}(y:α)(h:T.keep keep=st y)(hi:I y)(hm:mu y<m):FN keep st I mu m k .normal T:=⟨y,h,hi,hm⟩
theorem go_loop{α:Type}{L:bC}{c:VC}{gh:List iR}{keep:c9}{a:VC}{k:cH}{S:St}(st:α→St)(I:α→Prop)(mu:α→Nat)(x:α)(hc:c=.loop gh keep a)(hS:cN (mL gh S) fun S=>S.keep keep=st x)(hI:I x)
  (step:∀x,I x→go L a (st x) (FN keep st I mu (mu x) k)):go L c S k:=by
 subst hc;obtain⟨S1,hg,hS⟩:=hS
 suffices h:∀m x S,S.keep keep=st x→mu x<m→I x→∃n e T,iter (fun S=>VC.run L n a (S.keep keep)) n S=some (e,T)∧k e T by
  obtain⟨n,e,T,h1,h2⟩:=h (mu x+1) x S1 hS (by omega) hI
  exact⟨n,e,T,by simp only[VC.run,hg];exact h1,h2⟩
 intro m;induction m with
 |zero=>intro x S _ h;omega
 |succ m ih =>
  intro x S hS hm hI;obtain⟨n,e,T,h1,h2⟩:=step x hI;rw[←hS]at h1;cases e with
  |normal =>
   obtain⟨y,hT,hy,bG⟩:=h2;obtain⟨n',e,T,h3,h4⟩:=ih y T hT (by omega) hy
   refine⟨n+n'+1,e,T,?_,h4⟩;simp only[iter];rw[uG (by omega) h1]
   exact CT (fun S x h=>uG (by omega) h) (by omega) h3
  |exit i=>exact⟨n+1,_,_,by simp only[iter];rw[uG (by omega) h1],h2⟩
  |ret=>exact⟨n+1,_,_,by simp only[iter];rw[uG (by omega) h1],h2⟩
def iV(L:bC)(f:FuncId)(args:List V)(G:List aV)(Q:V→List aV→Prop):Prop:=∃r G',L f args G=some (r,G')∧Q r G'
def vA(rs:List qY)(Q:V→List aV→Prop):cH:=fun e T=>match e with
 |.normal=>cN (ta T rs) fun v=>Q v T.az
 |.ret=>cN (ta T rs) fun v=>Q v T.az
 |.exit _=>False
@[simp] theorem al5{rs:List qY}{Q:V→List aV→Prop}{T:St}:vA rs Q .normal T=cN (ta T rs) fun v=>Q v T.az:=rfl
@[simp] theorem al6{rs:List qY}{Q:V→List aV→Prop}{T:St}:vA rs Q .ret T=cN (ta T rs) fun v=>Q v T.az:=rfl
theorem ju{F:FuncId→Option br}{f:FuncId}{vf:br}(hf:F f=some vf){args:List V}{G:List aV}{Q:V→List aV→Prop}(hl:(args.length==vf.nparams&&vf.defs.isEmpty&&vf.split.isNone)=true)
  (h:go (bo F) vf.body { env:=oD 0 args,bb:=[],bm:=[],az:=G } (vA vf.results Q)):iV (bo F) f args G Q:=by
 simp only[Bool.and_eq_true,List.isEmpty_iff,Option.isNone_iff_eq_none]at hl;obtain⟨⟨hl,hd⟩,hs⟩:=hl;obtain⟨n,e,T,h1,h2⟩:=h;cases e with
 |exit i=>exact h2.elim
 |normal =>
  obtain⟨v,h3,h4⟩:=h2;exact⟨v,T.az,P4 hf (n:=n) hd hs (by simp only[br.call,hl,cond_true,h1,h3]),h4⟩
 |ret =>
  obtain⟨v,h3,h4⟩:=h2;exact⟨v,T.az,P4 hf (n:=n) hd hs (by simp only[br.call,hl,cond_true,h1,h3]),h4⟩
theorem Y4{F:FuncId→Option br}{f:FuncId}{vf:br}(hf:F f=some vf){i off:Nat}{G:List aV}{Q:V→List aV→Prop}(hl:(1==vf.nparams && !vf.defs.isEmpty&&vf.split.isNone)=true)
  (h:go (bo F) vf.body { env:=oD 0 [.bN i off],bb:=[],bm:=[],az:=G } (vA vf.results fun _ G1=>∃G2,oE (bo F) [.bN i off] vf.defs.reverse G1=some G2∧Q (.tuple []) G2)):iV (bo F) f [.bN i off] G Q:=by
 simp only[Bool.and_eq_true,Bool.not_eq_true',List.isEmpty_eq_false_iff,Option.isNone_iff_eq_none]at hl;obtain⟨⟨hl,hd⟩,hs⟩:=hl;obtain⟨n,e,T,h1,h2⟩:=h;cases e with
 |exit i=>exact h2.elim
 |normal =>
  obtain⟨v,h3,G2,h4,h5⟩:=h2;exact⟨_,G2,P6 hf (n:=n) hd hs (r:=v) (by simp only[br.call,List.length_singleton,hl,cond_true,h1,h3]) h4,h5⟩
 |ret =>
  obtain⟨v,h3,G2,h4,h5⟩:=h2;exact⟨_,G2,P6 hf (n:=n) hd hs (r:=v) (by simp only[br.call,List.length_singleton,hl,cond_true,h1,h3]) h4,h5⟩
theorem cg{F:FuncId→Option br}{f:FuncId}{vf:br}(hf:F f=some vf){args:List V}{G G':List aV}{r:V}(hl:(args.length==vf.nparams&&vf.defs.isEmpty&&vf.split.isNone)=true)
  (h:go (bo F) vf.body { env:=oD 0 args,bb:=[],bm:=[],az:=G } (vA vf.results fun v G1=>v=r∧G1=G')):bo F f args G=some (r,G'):=by
 obtain⟨_,_,h1,rfl,rfl⟩:=ju hf hl h;exact h1
theorem JU{F:FuncId→Option br}{f:FuncId}{vf:br}(hf:F f=some vf){args:List V}{G G':List aV}{r:V}{p m:Nat}(hl:(args.length==vf.nparams&&vf.defs.isEmpty)=true)(hs:vf.split=some p)(hp:args[p]?=some (.slice none m []))
  (h:go (bo F) vf.body { env:=oD 0 (args.set p .aK),bb:=[],bm:=[],az:=G } (vA vf.results fun v G1=>v=r∧G1=G'))
  (h':go (bo F) vf.body { env:=oD 0 (args.set p (.fD m)),bb:=[],bm:=[],az:=G } (vA vf.results fun v G1=>v=r∧G1=G')):bo F f args G=some (r,G'):=by
 simp only[Bool.and_eq_true,List.isEmpty_iff]at hl;obtain⟨hl,hd⟩:=hl;have key:∀u,go (bo F) vf.body { env:=oD 0 (args.set p u),bb:=[],bm:=[],az:=G } (vA vf.results fun v G1=>v=r∧G1=G')→∃n,vf.call (bo F) n (args.set p u) G=some (r,G'):=fun u h=>by
  obtain⟨n,e,T,h1,h2⟩:=h;have Qh:((args.set p u).length==vf.nparams)=true:=by rw[List.length_set];exact hl
  cases e with
  |exit i=>exact h2.elim
  |normal =>
   obtain⟨v,h3,rfl,rfl⟩:=h2;exact⟨n,by simp only[br.call,Qh,cond_true,h1,h3]⟩
  |ret =>
   obtain⟨v,h3,rfl,rfl⟩:=h2;exact⟨n,by simp only[br.call,Qh,cond_true,h1,h3]⟩
 obtain⟨n,h1⟩:=key _ h;obtain⟨k,h2⟩:=key _ h';exact YT hf hd hs hp h1 h2
theorem JV{F:FuncId→Option br}{f:FuncId}{vf:br}(hf:F f=some vf){args:List V}{G G':List aV}{r:V}{p:Nat}(hl:(args.length==vf.nparams&&vf.defs.isEmpty)=true)(hs:vf.split=some p)(hp:∀m,args[p]?≠some (.slice none m []))
  (h:go (bo F) vf.body { env:=oD 0 args,bb:=[],bm:=[],az:=G } (vA vf.results fun v G1=>v=r∧G1=G')):bo F f args G=some (r,G'):=by
 simp only[Bool.and_eq_true,List.isEmpty_iff]at hl;obtain⟨hl,hd⟩:=hl;obtain⟨n,e,T,h1,h2⟩:=h;cases e with
 |exit i=>exact h2.elim
 |normal =>
  obtain⟨v,h3,rfl,rfl⟩:=h2;exact P5 hf (n:=n) hd hs hp (by simp only[br.call,hl,cond_true,h1,h3])
 |ret =>
  obtain⟨v,h3,rfl,rfl⟩:=h2;exact P5 hf (n:=n) hd hs hp (by simp only[br.call,hl,cond_true,h1,h3])
abbrev i64(n:Int):V:=.int .i64 n
theorem wrap64{n:Int}(h1:-9223372036854775808≤n)(h2:n≤9223372036854775807):IntKind.i64.wrap n=n:=by
 simp[IntKind.wrap,IntKind.bits,IntKind.signed];omega
def rep{α:Type}(n:Nat)(x:α):List α:=List.replicate n x
@[simp] theorem al7{α:Type}{n:Nat}{x:α}:(rep n x).length=n:=by simp[rep]
def eX(n:Nat)(f:Nat→Int):List V:=(List.range n).map fun j=>.int .i64 (f j)
@[simp] theorem al8{n:Nat}{f:Nat→Int}:(eX n f).length=n:=by simp[eX]
theorem JW{n:Nat}{f g:Nat→Int}(h:∀j,j<n→f j=g j):eX n f=eX n g:=by
 unfold eX;apply List.map_congr_left;intro j hj;rw[h j (by simpa using hj)]
theorem oc{n:Nat}{f:Nat→Int}{i:Nat}(h:i<n):(eX n f)[i]?=some (.int .i64 (f i)):=by simp[eX,h]
@[simp] theorem al9{n:Nat}{f:Nat→Int}{i:Nat}{v:Int}:(eX n f).set i (.int .i64 v)=eX n fun j=>if j=i then v else f j:=by
 apply List.ext_getElem?;intro k;by_cases hk:k<n
 ·by_cases h:i=k
  ·subst h
   rw[List.getElem?_set_self (by simpa using hk),oc hk]
   simp
  ·rw[List.getElem?_set_ne h,oc hk,oc hk,if_neg (fun e=>h e.symm)]
 ·rw[List.getElem?_eq_none (by simp;omega),List.getElem?_eq_none (by simp;omega)]
@[simp] theorem ama{n:Nat}{f:Nat→Int}:(eX n f).all V.cM=true:=by
 simp[eX,V.cM]
@[simp] theorem amb{n:Nat}{f:Nat→Int}{d:Nat}:(eX n f).all (fun v => !v.cI d)=true:=by
 simp[eX,V.cI]
@[simp] theorem amc{n:Nat}{f:Nat→Int}:(eX n f).all V.iz=true:=by
 simp[eX,V.iz,V.plain]
@[simp] theorem amd{n:Nat}{f:Nat→Int}:(eX n f).map gY=eX n f:=by
 simp[eX,gY]
@[simp] theorem ame{n:Nat}{f:Nat→Int}:(eX n f).map strip=eX n f:=by
 simp[eX,strip,gY]
@[simp] theorem amf{n:Nat}{f:Nat→Int}{d:Nat}:(eX n f).any (V.cI d)=false:=by
 simp[eX,V.cI]
@[simp] theorem Y5{n:Nat}{f:Nat→Int}:(eX n f).take n=eX n f:=List.take_of_length_le (by simp)
theorem Qi{S:St}{used:List Nat}{α:Type}(g:α→Int):∀l:List α,mj S (List.replicate l.length none) used (l.map fun j=>.int .i64 (g j))=some (l.map fun j=>.int .i64 (g j),used)
 |[]=>rfl
 |a::l=>by simp[List.replicate_succ,mj,wD,oz,el,Qi g l]
@[simp] theorem amg{S:St}{used:List Nat}{n:Nat}{f:Nat→Int}:mj S (rep n none) used (eX n f)=some (eX n f,used):=by
 unfold rep;have:=Qi (S:=S) (used:=used) f (List.range n)
 rwa [List.length_range]at this
@[simp] theorem Qj{n:Nat}:rep n (V.int .i64 0)=eX n fun _=>0:=by
 simp[rep,eX,List.map_const']
theorem Qk:∀(cs:List V) (off:Nat) (vs:List V),off+vs.length≤cs.length→jc cs off vs=cs.take off++vs++cs.drop (off+vs.length)
 |cs,off,[],h=>by simp[jc]
 |cs,off,v::vs,h=>by
  simp only[List.length_cons]at h;rw[jc,Qk _ _ _ (by simp;omega)]
  apply List.ext_getElem?;intro i;simp only[List.length_cons,List.getElem?_append,List.length_take,List.length_append,List.length_set,List.getElem?_take,List.getElem?_set,List.getElem?_drop,List.getElem?_cons];rcases Nat.lt_trichotomy i off with h1|h1|h1
  ·simp (disch:=omega) [h1,if_pos,if_neg]
  ·subst h1
   grind
  ·grind
theorem Y6{cs vs:List V}(h:vs.length=cs.length):jc cs 0 vs=vs:=by
 rw[Qk _ _ _ (by omega)]
 simp[h]
@[simp] theorem amh{n:Nat}{f g:Nat→Int}:jc (eX n f) 0 (eX n g)=eX n g:=Y6 (by simp)
@[simp] theorem sm0{d:Nat} :
  V.cI d .undef=false ∧
  V.dC d .undef=false ∧
  V.cu d .undef=false ∧
  V.cI d .aK=false ∧
  V.dC d .aK=false ∧
  V.cu d .aK=false ∧
  V.cI d .fU=false ∧
  V.dC d .fU=false ∧
  V.cu d .fU=false ∧
  V.cI d .fP=false ∧
  V.dC d .fP=false ∧
  V.cu d .fP=false ∧
  V.cI d .fV=false ∧
  V.dC d .fV=false ∧
  V.cu d .fV=false:=by and_intros<;>rfl
@[simp] theorem sm1  :
  V.cM .undef=false ∧
  V.cells .undef=[.undef] ∧
  V.plain .undef=false ∧
  V.iz .undef=false ∧
  V.iJ .undef=false ∧
  V.lone .undef=false ∧
  gY .undef=.undef ∧
  strip .undef=.undef ∧
  V.cM .aK=true ∧
  V.cells .aK=[.aK] ∧
  V.plain .aK=true ∧
  V.iz .aK=true ∧
  V.iJ .aK=true ∧
  V.lone .aK=true ∧
  gY .aK=.aK ∧
  strip .aK=.aK ∧
  V.cM .fU=true ∧
  V.cells .fU=[.fU] ∧
  V.plain .fU=false ∧
  V.iz .fU=false ∧
  V.iJ .fU=false ∧
  V.lone .fU=false ∧
  gY .fU=.fU ∧
  strip .fU=.fU ∧
  V.cM .fP=true ∧
  V.cells .fP=[.fP] ∧
  V.plain .fP=false ∧
  V.iz .fP=false ∧
  V.iJ .fP=false ∧
  V.lone .fP=false ∧
  gY .fP=.fP ∧
  strip .fP=.fP ∧
  V.cM .fV=true ∧
  V.cells .fV=[.fV] ∧
  V.plain .fV=false ∧
  V.iz .fV=false ∧
  V.iJ .fV=false ∧
  V.lone .fV=false ∧
  gY .fV=.fV ∧
  strip .fV=.fV ∧
  V.j9 .aK=.aK ∧
  V.kF .aK=.aK ∧
  V.j9 .fU=.fU ∧
  V.kF .fU=.fU ∧
  V.j9 .fP=.fP ∧
  V.kF .fP=.fP ∧
  V.j9 .fV=.fV ∧
  V.kF .fV=.fV:=by and_intros<;>rfl
@[simp] theorem sm2{k:IntKind}{n:Int}{d:Nat} :
  V.cI d (.int k n)=false ∧
  V.dC d (.int k n)=false ∧
  V.cu d (.int k n)=false:=by and_intros<;>rfl
@[simp] theorem sm3{k:IntKind}{n:Int} :
  V.cM (.int k n)=true ∧
  V.cells (.int k n)=[.int k n] ∧
  V.plain (.int k n)=true ∧
  V.iz (.int k n)=true ∧
  V.iJ (.int k n)=true ∧
  V.lone (.int k n)=true ∧
  gY (.int k n)=.int k n ∧
  strip (.int k n)=.int k n ∧
  V.j9 (.int k n)=.int k n ∧
  V.kF (.int k n)=.int k n:=by and_intros<;>rfl
@[simp] theorem sm4{b:Bool}{d:Nat} :
  V.cI d (.bool b)=false ∧
  V.dC d (.bool b)=false ∧
  V.cu d (.bool b)=false:=by and_intros<;>rfl
@[simp] theorem sm5{b:Bool} :
  V.cM (.bool b)=true ∧
  V.cells (.bool b)=[.bool b] ∧
  V.plain (.bool b)=true ∧
  V.iz (.bool b)=true ∧
  V.iJ (.bool b)=true ∧
  V.lone (.bool b)=true ∧
  gY (.bool b)=.bool b ∧
  strip (.bool b)=.bool b ∧
  V.j9 (.bool b)=.bool b ∧
  V.kF (.bool b)=.bool b:=by and_intros<;>rfl
@[simp] theorem sm6{s:List UInt8}{d:Nat} :
  V.cI d (.str s)=false ∧
  V.dC d (.str s)=false ∧
  V.cu d (.str s)=false:=by and_intros<;>rfl
@[simp] theorem sm7{s:List UInt8} :
  V.cM (.str s)=true ∧
  V.cells (.str s)=[.str s] ∧
  V.plain (.str s)=true ∧
  V.iz (.str s)=true ∧
  V.iJ (.str s)=true ∧
  V.lone (.str s)=true ∧
  gY (.str s)=.str s ∧
  strip (.str s)=.str s ∧
  V.j9 (.str s)=.str s ∧
  V.kF (.str s)=.str s:=by and_intros<;>rfl
@[simp] theorem sm8{z:Nat}{es:List (List V)}{d:Nat} :
  V.cI d (.slice none z es)=false ∧
  V.dC d (.slice none z es)=false ∧
  V.cu d (.slice none z es)=false:=by and_intros<;>rfl
@[simp] theorem sm9{z:Nat}{es:List (List V)} :
  V.cM (.slice none z es)=true ∧
  V.cells (.slice none z es)=[.slice none z es] ∧
  V.plain (.slice none z es)=true ∧
  V.iz (.slice none z es)=true ∧
  V.iJ (.slice none z es)=true ∧
  V.lone (.slice none z es)=true ∧
  gY (.slice none z es)=.slice none z es ∧
  strip (.slice none z es)=.slice none z es:=by and_intros<;>rfl
@[simp] theorem ams{t z:Nat}{es:List (List V)}{d:Nat} :
  V.cI d (.slice (some t) z es:V)=(t==d) ∧
  V.dC d (.slice (some t) z es:V)=(t==d) ∧
  V.cu d (.slice (some t) z es:V)=(t==d):=by and_intros<;>rfl
@[simp] theorem amt{t z:Nat}{es:List (List V)} :
  V.cM (.slice (some t) z es:V)=true ∧
  V.cells (.slice (some t) z es:V)=[.slice (some t) z es] ∧
  V.plain (.slice (some t) z es:V)=false ∧
  V.iz (.slice (some t) z es:V)=true ∧
  V.iJ (.slice (some t) z es:V)=true ∧
  V.lone (.slice (some t) z es:V)=true ∧
  gY (.slice (some t) z es:V)=.slice none z es ∧
  strip (.slice (some t) z es:V)=.slice none z es:=by and_intros<;>rfl
@[simp] theorem amu{cs:List V}{d:Nat} :
  V.cI d (.agg cs)=true ∧
  V.dC d (.agg cs)=cs.any (V.cI d) ∧
  V.cu d (.agg cs)=cs.any (V.cI d):=by and_intros<;>rfl
@[simp] theorem amv{cs:List V} :
  V.cM (.agg cs)=false ∧
  V.cells (.agg cs)=cs ∧
  V.plain (.agg cs)=false ∧
  V.iz (.agg cs)=false ∧
  V.iJ (.agg cs)=cs.all V.iz ∧
  V.lone (.agg cs)=cs.all V.iz ∧
  gY (.agg cs)=.agg cs ∧
  strip (.agg cs)=.agg (cs.map gY) ∧
  V.kF (.agg cs)=.agg (cs.map V.j9):=by and_intros<;>rfl
@[simp] theorem amw{vs:List V}{d:Nat} :
  V.cI d (.tuple vs)=true ∧
  V.dC d (.tuple vs)=true ∧
  V.cu d (.tuple vs)=vs.any (V.dC d):=by and_intros<;>rfl
@[simp] theorem amx{vs:List V} :
  V.cM (.tuple vs)=false ∧
  V.cells (.tuple vs)=[.tuple vs] ∧
  V.plain (.tuple vs)=false ∧
  V.iz (.tuple vs)=false ∧
  V.iJ (.tuple vs)=false ∧
  V.lone (.tuple vs)=vs.all V.iJ ∧
  gY (.tuple vs)=.tuple vs ∧
  strip (.tuple vs)=.tuple vs:=by and_intros<;>rfl
@[simp] theorem amy{r:List V}{o:Nat}{d:Nat} :
  V.cI d (.fc r o)=false ∧
  V.dC d (.fc r o)=false ∧
  V.cu d (.fc r o)=false:=by and_intros<;>rfl
@[simp] theorem amz{r:List V}{o:Nat} :
  V.cM (.fc r o)=true ∧
  V.cells (.fc r o)=[.fc r o] ∧
  V.plain (.fc r o)=false ∧
  V.iz (.fc r o)=false ∧
  V.iJ (.fc r o)=false ∧
  V.lone (.fc r o)=false ∧
  gY (.fc r o)=.fc r o ∧
  strip (.fc r o)=.fc r o:=by and_intros<;>rfl
@[simp] theorem amA{i o:Nat}{d:Nat} :
  V.cI d (.bK i o)=(i==d) ∧
  V.dC d (.bK i o)=(i==d) ∧
  V.cu d (.bK i o)=(i==d) ∧
  V.cI d (.bN i o)=false ∧
  V.dC d (.bN i o)=false ∧
  V.cu d (.bN i o)=false:=by and_intros<;>rfl
@[simp] theorem amB{i o:Nat} :
  V.cM (.bK i o)=true ∧
  V.cells (.bK i o)=[.bK i o] ∧
  V.plain (.bK i o)=false ∧
  V.iz (.bK i o)=false ∧
  V.iJ (.bK i o)=false ∧
  V.lone (.bK i o)=false ∧
  gY (.bK i o)=.bK i o ∧
  strip (.bK i o)=.bK i o ∧
  V.cM (.bN i o)=true ∧
  V.cells (.bN i o)=[.bN i o] ∧
  V.plain (.bN i o)=false ∧
  V.iz (.bN i o)=false ∧
  V.iJ (.bN i o)=false ∧
  V.lone (.bN i o)=false ∧
  gY (.bN i o)=.bN i o ∧
  strip (.bN i o)=.bN i o ∧
  V.j9 (.bN i o)=.bN i o ∧
  V.kF (.bN i o)=.bN i o:=by and_intros<;>rfl
@[simp] theorem amC{i o l:Nat}{d:Nat} :
  V.cI d (.b0 i o l)=(i==d) ∧
  V.dC d (.b0 i o l)=(i==d) ∧
  V.cu d (.b0 i o l)=(i==d):=by and_intros<;>rfl
@[simp] theorem amD{i o l:Nat} :
  V.cM (.b0 i o l)=true ∧
  V.cells (.b0 i o l)=[.b0 i o l] ∧
  V.plain (.b0 i o l)=false ∧
  V.iz (.b0 i o l)=false ∧
  V.iJ (.b0 i o l)=false ∧
  V.lone (.b0 i o l)=false ∧
  gY (.b0 i o l)=.b0 i o l ∧
  strip (.b0 i o l)=.b0 i o l ∧
  V.j9 (.b0 i o l)=.b0 i o l ∧
  V.kF (.b0 i o l)=.b0 i o l:=by and_intros<;>rfl
@[simp] theorem amE{f:FuncId}{c:List V}{d:Nat} :
  V.cI d (.fn f c)=false ∧
  V.dC d (.fn f c)=false ∧
  V.cu d (.fn f c)=false:=by and_intros<;>rfl
@[simp] theorem amF{f:FuncId}{c:List V} :
  V.cM (.fn f c)=true ∧
  V.cells (.fn f c)=[.fn f c] ∧
  V.plain (.fn f c)=false ∧
  V.iz (.fn f c)=false ∧
  V.iJ (.fn f c)=false ∧
  V.lone (.fn f c)=false ∧
  gY (.fn f c)=.fn f c ∧
  strip (.fn f c)=.fn f c ∧
  V.j9 (.fn f c)=.fn f c ∧
  V.kF (.fn f c)=.fn f c:=by and_intros<;>rfl
@[simp] theorem amG{i:Nat}{d:Nat} :
  V.cI d (.map i)=false ∧
  V.dC d (.map i)=false ∧
  V.cu d (.map i)=false:=by and_intros<;>rfl
@[simp] theorem amH{i:Nat} :
  V.cM (.map i)=true ∧
  V.cells (.map i)=[.map i] ∧
  V.plain (.map i)=false ∧
  V.iz (.map i)=false ∧
  V.iJ (.map i)=false ∧
  V.lone (.map i)=false ∧
  gY (.map i)=.map i ∧
  strip (.map i)=.map i ∧
  V.j9 (.map i)=.map i ∧
  V.kF (.map i)=.map i:=by and_intros<;>rfl
@[simp] theorem amI{n:Nat}{es:List (List V)}{d:Nat} :
  V.cI d (.fC n es)=false ∧
  V.dC d (.fC n es)=false ∧
  V.cu d (.fC n es)=false:=by and_intros<;>rfl
@[simp] theorem amJ{n:Nat}{es:List (List V)} :
  V.cM (.fC n es)=true ∧
  V.cells (.fC n es)=[.fC n es] ∧
  V.plain (.fC n es)=false ∧
  V.iz (.fC n es)=false ∧
  V.iJ (.fC n es)=false ∧
  V.lone (.fC n es)=false ∧
  gY (.fC n es)=.fC n es ∧
  strip (.fC n es)=.fC n es ∧
  V.j9 (.fC n es)=.slice none n es ∧
  V.kF (.fC n es)=.slice none n es:=by and_intros<;>rfl
@[simp] theorem amK{t:Option Nat}{n:Nat}{es:List (List V)} :
  V.j9 (.slice t n es)=.slice t n es ∧
  V.kF (.slice t n es)=.slice t n es:=by and_intros<;>rfl
@[simp] theorem amL{n:Nat}{d:Nat} :
  V.cI d (.dZ n)=false ∧
  V.dC d (.dZ n)=false ∧
  V.cu d (.dZ n)=false ∧
  V.cI d (.fD n)=false ∧
  V.dC d (.fD n)=false ∧
  V.cu d (.fD n)=false:=by and_intros<;>rfl
@[simp] theorem amM{n:Nat} :
  V.cM (.dZ n)=true ∧
  V.cells (.dZ n)=[.dZ n] ∧
  V.plain (.dZ n)=false ∧
  V.iz (.dZ n)=false ∧
  V.iJ (.dZ n)=false ∧
  V.lone (.dZ n)=false ∧
  gY (.dZ n)=.dZ n ∧
  strip (.dZ n)=.dZ n ∧
  V.j9 (.dZ n)=.dZ n ∧
  V.kF (.dZ n)=.dZ n ∧
  V.cM (.fD n)=true ∧
  V.cells (.fD n)=[.fD n] ∧
  V.plain (.fD n)=false ∧
  V.iz (.fD n)=false ∧
  V.iJ (.fD n)=false ∧
  V.lone (.fD n)=false ∧
  gY (.fD n)=.fD n ∧
  strip (.fD n)=.fD n ∧
  V.j9 (.fD n)=.fD n ∧
  V.kF (.fD n)=.fD n:=by and_intros<;>rfl
@[simp] theorem amN{t:Option Nat}{z:Nat}{es:List (List V)}:gY (.slice t z es:V)=.slice none z es:=by cases t<;>rfl
@[simp] theorem amO{t:Option Nat}{z:Nat}{es:List (List V)}:strip (.slice t z es:V)=.slice none z es:=by cases t<;>rfl
@[simp] theorem amP{t:Option Nat}{z:Nat}{es:List (List V)}:V.iz (.slice t z es:V)=true:=by cases t<;>rfl
@[simp] theorem amQ{t:Option Nat}{z:Nat}{es:List (List V)}:V.iJ (.slice t z es:V)=true:=by cases t<;>rfl
@[simp] theorem amR{t:Option Nat}{z:Nat}{es:List (List V)}:V.lone (.slice t z es:V)=true:=by cases t<;>rfl
@[simp] theorem amS{t:Option Nat}{z:Nat}{es:List (List V)}:V.cM (.slice t z es:V)=true:=by cases t<;>rfl
@[simp] theorem amT{t:Option Nat}{z:Nat}{es:List (List V)}:V.cells (.slice t z es:V)=[.slice t z es]:=by cases t<;>rfl
@[simp] theorem amU{v:V}:xH .jo v=v:=rfl
@[simp] theorem amV{i:Nat}{v:V}:xH (.loc i) v=v:=rfl
@[simp] theorem amW{v:V}:xH .az v=v.kF:=rfl
def JX(L:bC)(d:Option Nat)(reg:List (Nat×Nat))(S:St)(os:List bI)(keep:c9)(k:cH):V×List aV→Prop:=fun r =>
 r.1.lone=true∧eb L os keep k ({ S with bm:=(recv reg r.1).2++S.bm }.put d (recv reg r.1).1)
@[simp] theorem Y7{L:bC}{d:Option Nat}{reg:List (Nat×Nat)}{S:St}{os:List bI}{keep:c9}{k:cH}{r:V}{G:List aV} :
  JX L d reg S os keep k (r,G)=(r.lone=true∧eb L os keep k ({ S with bm:=(recv reg r).2++S.bm }.put d (recv reg r).1)):=rfl
def Ql(L:bC)(d:Option Nat)(g:FuncId)(reg:List (Nat×Nat))(S:St)(os:List bI)(keep:c9)(k:cH):List V→Prop:=fun vs=>cN (L g vs []) (JX L d reg S os keep k)
@[simp] theorem Y8{L:bC}{d:Option Nat}{g:FuncId}{reg:List (Nat×Nat)}{S:St}{os:List bI}{keep:c9}{k:cH}{vs:List V} :
  Ql L d g reg S os keep k vs=cN (L g vs []) (JX L d reg S os keep k):=rfl
@[simp high] theorem amX{L:bC}{d:Option Nat}{g:FuncId}{args:List (Sh×bB)}{reg:List (Nat×Nat)}{os:List bI}{keep:c9}{k:cH}{S:St} :
  eb L (⟨d,.call true (.c (.fn g [])) args reg,none⟩::os) keep k S=cN (ki S args) (Ql L d g reg S os keep k):=by
 rw[iB];simp only[bI.run,VO.run,St.ev];cases ki S args with
 |none=>simp[cN]
 |some vs =>
  simp only[rz,Y8];rcases L g vs []with _ | ⟨r,G⟩
  ·simp[cN]
  ·simp only[rz,Y7]
   cases r.lone<;>simp[cN]
def JY(L:bC)(d:Option Nat)(reg:List (Nat×Nat))(S:St)(os:List bI)(keep:c9)(k:cH):V×List aV→Prop:=fun r =>
 eb L os keep k ({ S with az:=r.2,bm:=(recv reg r.1).2++S.bm }.put d (recv reg r.1).1)
@[simp] theorem amY{L:bC}{d:Option Nat}{reg:List (Nat×Nat)}{S:St}{os:List bI}{keep:c9}{k:cH}{r:V}{G:List aV} :
  JY L d reg S os keep k (r,G)=eb L os keep k ({ S with az:=G,bm:=(recv reg r).2++S.bm }.put d (recv reg r).1):=rfl
def JZ(L:bC)(d:Option Nat)(g:FuncId)(cap:List V)(reg:List (Nat×Nat))(S:St)(os:List bI)(keep:c9)(k:cH):List V→Prop:=fun vs=>cN (L g (vs++cap) S.az) (JY L d reg S os keep k)
@[simp] theorem Y9{L:bC}{d:Option Nat}{g:FuncId}{cap:List V}{reg:List (Nat×Nat)}{S:St}{os:List bI}{keep:c9}{k:cH}{vs:List V} :
  JZ L d g cap reg S os keep k vs=cN (L g (vs++cap) S.az) (JY L d reg S os keep k):=rfl
def J0(L:bC)(d:Option Nat)(args:List (Sh×bB))(reg:List (Nat×Nat))(S:St)(os:List bI)(keep:c9)(k:cH):V→Prop:=fun f=>match f with
 |.fn g cap=>cN (lV S args) (JZ L d g cap reg S os keep k)
 |_=>False
@[simp] theorem Za{L:bC}{d:Option Nat}{args:List (Sh×bB)}{reg:List (Nat×Nat)}{S:St}{os:List bI}{keep:c9}{k:cH}{g:FuncId}{cap:List V} :
  J0 L d args reg S os keep k (.fn g cap)=cN (lV S args) (JZ L d g cap reg S os keep k):=rfl
@[simp high] theorem amZ{L:bC}{d:Option Nat}{f:bB}{args:List (Sh×bB)}{reg:List (Nat×Nat)}{os:List bI}{keep:c9}{k:cH}{S:St} :
  eb L (⟨d,.call false f args reg,none⟩::os) keep k S=cN (S.ev f) (J0 L d args reg S os keep k):=by
 rw[iB];simp only[bI.run,VO.run];rcases S.ev f with _|v
 ·simp[cN]
 ·simp only[rz]
  cases v with
  |fn g cap =>
   simp only[Za];cases lV S args with
   |none=>simp[cN]
   |some vs =>
    simp only[rz,Y9];rcases L g (vs++cap) S.az with _ | ⟨r,G⟩
    ·simp[cN]
    ·simp
  |_=>simp[cN,J0]
def J1(L:bC)(d:Option Nat)(S:St)(os:List bI)(keep:c9)(k:cH):V×List aV→Prop:=fun r =>
 r.2=S.az∧eb L os keep k (S.put d (recv [] r.1).1)
@[simp] theorem Zb{L:bC}{d:Option Nat}{S:St}{os:List bI}{keep:c9}{k:cH}{r:V}{G:List aV} :
  J1 L d S os keep k (r,G)=(G=S.az∧eb L os keep k (S.put d (recv [] r).1)):=rfl
def J2(L:bC)(d:Option Nat)(g:FuncId)(cap:List V)(S:St)(os:List bI)(keep:c9)(k:cH):List V→Prop:=fun vs=>cN (L g (vs++cap) S.az) (J1 L d S os keep k)
@[simp] theorem Zc{L:bC}{d:Option Nat}{g:FuncId}{cap:List V}{S:St}{os:List bI}{keep:c9}{k:cH}{vs:List V} :
  J2 L d g cap S os keep k vs=cN (L g (vs++cap) S.az) (J1 L d S os keep k):=rfl
def J3(L:bC)(d:Option Nat)(args:List (Sh×bB))(S:St)(os:List bI)(keep:c9)(k:cH):V→Prop:=fun f=>match f with
 |.fn g cap=>cN (lV S args) (J2 L d g cap S os keep k)
 |_=>False
@[simp] theorem Zd{L:bC}{d:Option Nat}{args:List (Sh×bB)}{S:St}{os:List bI}{keep:c9}{k:cH}{g:FuncId}{cap:List V} :
  J3 L d args S os keep k (.fn g cap)=cN (lV S args) (J2 L d g cap S os keep k):=rfl
@[simp high] theorem am0{L:bC}{d:Option Nat}{f:bB}{args:List (Sh×bB)}{os:List bI}{keep:c9}{k:cH}{S:St} :
  eb L (⟨d,.mJ f args,none⟩::os) keep k S=cN (S.ev f) (J3 L d args S os keep k):=by
 rw[iB];simp only[bI.run,VO.run];rcases S.ev f with _|v
 ·simp[cN]
 ·simp only[rz]
  cases v with
  |fn g cap =>
   simp only[Zd];cases lV S args with
   |none=>simp[cN]
   |some vs =>
    simp only[rz,Zc];rcases L g (vs++cap) S.az with _ | ⟨r,G⟩
    ·simp[cN]
    ·simp only[rz,Zb,rd]
     by_cases h:G=S.az
     ·simp[h]
     ·simp[h,cN]
  |_=>simp[cN,J3]
def FO(L:bC)(d:Option Nat)(id:Nat)(S:St)(os:List bI)(keep:c9)(k:cH):V×Option (List V)→Prop:=fun p=>match p.2 with
 |some cs=>eb L os keep k ({ S with bb:=(id,cs)::S.bb }.put d p.1)
 |none=>eb L os keep k (S.put d p.1)
@[simp] theorem am1{L:bC}{d:Option Nat}{id:Nat}{S:St}{os:List bI}{keep:c9}{k:cH}{v:V}{cs:List V} :
  FO L d id S os keep k (v,some cs)=eb L os keep k ({ S with bb:=(id,cs)::S.bb }.put d v):=rfl
@[simp] theorem am2{L:bC}{d:Option Nat}{id:Nat}{S:St}{os:List bI}{keep:c9}{k:cH}{v:V} :
  FO L d id S os keep k (v,none)=eb L os keep k (S.put d v):=rfl
def J4(L:bC)(d:Option Nat)(id pos:Nat)(S:St)(os:List bI)(keep:c9)(k:cH):V×List aV→Prop:=fun r=>cN (kG id pos r.1) (FO L d id S os keep k)
@[simp] theorem Ze{L:bC}{d:Option Nat}{id pos:Nat}{S:St}{os:List bI}{keep:c9}{k:cH}{r:V}{G:List aV} :
  J4 L d id pos S os keep k (r,G)=cN (kG id pos r) (FO L d id S os keep k):=rfl
def Qm(L:bC)(d:Option Nat)(g:FuncId)(id pos:Nat)(S:St)(os:List bI)(keep:c9)(k:cH):List V→Prop:=fun vs=>cN (L g vs []) (J4 L d id pos S os keep k)
@[simp] theorem Zf{L:bC}{d:Option Nat}{g:FuncId}{id pos:Nat}{S:St}{os:List bI}{keep:c9}{k:cH}{vs:List V} :
  Qm L d g id pos S os keep k vs=cN (L g vs []) (J4 L d id pos S os keep k):=rfl
@[simp high] theorem am3{L:bC}{d:Option Nat}{g:FuncId}{args:List (Sh×bB)}{id pos:Nat}{os:List bI}{keep:c9}{k:cH}{S:St} :
  eb L (⟨d,.own (.c (.fn g [])) args id pos,none⟩::os) keep k S=cN (ki S args) (Qm L d g id pos S os keep k):=by
 rw[iB];simp only[bI.run,VO.run,St.ev];cases ki S args with
 |none=>simp[cN]
 |some vs =>
  simp only[rz,Zf];rcases L g vs []with _ | ⟨r,G⟩
  ·simp[cN]
  ·simp only[rz,Ze]
   rcases kG id pos r with _ | ⟨v,_|cs⟩
   ·simp[cN]
   ·simp
   ·simp
def AR(L:bC)(d:Option Nat)(id:Nat)(S:St)(os:List bI)(keep:c9)(k:cH):V×Option (List V)→Prop:=fun p=>match p with
 |(.b0 i n ln,some cs)=>cN (bif i==id&&Nat.blt 0 cs.length&&Nat.blt 0 ln&&cs.all V.sc then some ({ S with az:=S.az++[aV.cells cs] }.put d (.dB S.az.length n ln)) else none) (eb L os keep k)
 |(.dZ n,none)=>eb L os keep k ({ S with az:=S.az++[aV.cells []] }.put d (.dB S.az.length n 0))
 |_=>False
@[simp] theorem am4{L:bC}{d:Option Nat}{id i n ln:Nat}{S:St}{os:List bI}{keep:c9}{k:cH}{cs:List V} :
  AR L d id S os keep k (.b0 i n ln,some cs)=cN (bif i==id&&Nat.blt 0 cs.length&&Nat.blt 0 ln&&cs.all V.sc then some ({ S with az:=S.az++[aV.cells cs] }.put d (.dB S.az.length n ln)) else none) (eb L os keep k):=rfl
@[simp] theorem am5{L:bC}{d:Option Nat}{id n:Nat}{S:St}{os:List bI}{keep:c9}{k:cH} :
  AR L d id S os keep k (.dZ n,none)=eb L os keep k ({ S with az:=S.az++[aV.cells []] }.put d (.dB S.az.length n 0)):=rfl
def J5(L:bC)(d:Option Nat)(id:Nat)(S:St)(os:List bI)(keep:c9)(k:cH):V×List aV→Prop:=fun r=>cN (kG id 0 r.1) (AR L d id S os keep k)
@[simp] theorem Zg{L:bC}{d:Option Nat}{id:Nat}{S:St}{os:List bI}{keep:c9}{k:cH}{r:V}{G:List aV} :
  J5 L d id S os keep k (r,G)=cN (kG id 0 r) (AR L d id S os keep k):=rfl
def Qn(L:bC)(d:Option Nat)(g:FuncId)(id:Nat)(S:St)(os:List bI)(keep:c9)(k:cH):List V→Prop:=fun vs=>cN (L g vs []) (J5 L d id S os keep k)
@[simp] theorem Zh{L:bC}{d:Option Nat}{g:FuncId}{id:Nat}{S:St}{os:List bI}{keep:c9}{k:cH}{vs:List V} :
  Qn L d g id S os keep k vs=cN (L g vs []) (J5 L d id S os keep k):=rfl
@[simp high] theorem am6{L:bC}{d:Option Nat}{g:FuncId}{args:List (Sh×bB)}{id:Nat}{os:List bI}{keep:c9}{k:cH}{S:St} :
  eb L (⟨d,.pG (.c (.fn g [])) args id,none⟩::os) keep k S=cN (ki S args) (Qn L d g id S os keep k):=by
 rw[iB];simp only[bI.run,VO.run,St.ev];cases ki S args with
 |none=>simp[cN]
 |some vs =>
  simp only[rz,Zh];rcases L g vs []with _ | ⟨r,G⟩
  ·simp[cN]
  ·simp only[rz,Zg]
   rcases kG id 0 r with _ | ⟨v,o⟩
   ·simp[cN]
   ·rcases o with _|cs
    ·cases v<;>simp[cN,AR]
    ·cases v<;>simp[cN,AR]
     all_goals (split<;>simp_all)
def jY(w:Bool)(o:Option V)(A B:Prop):Prop:=match o with
 |some (.bool b)=>bif b==w then A else B
 |some .undef=>B
 |_=>False
@[simp] theorem am7{b:Bool}{A B:Prop}:jY true (some (.bool b)) A B=sB (some (.bool b)) A B:=by cases b<;>simp[jY]
@[simp] theorem am8{b:Bool}{A B:Prop}:jY false (some (.bool b)) A B=sB (some (.bool b)) B A:=by cases b<;>simp[jY]
@[simp] theorem am9{w:Bool}{A B:Prop}:jY w (some .undef) A B=B:=rfl
@[simp] theorem ana{w b:Bool}{x y:V}{A B:Prop}:jY w (some (ky b x y)) A B=sB (some (.bool b)) (jY w (some x) A B) (jY w (some y) A B):=by cases b<;>simp
@[simp high] theorem anb{L:bC}{d:Option Nat}{al:Bool}{f:bB}{args:List (Sh×bB)}{reg:List (Nat×Nat)}{g:Nat}{w:Bool}{os:List bI}{keep:c9}{k:cH}{S:St} :
  eb L (⟨d,.call al f args reg,some (g,w)⟩::os) keep k S=jY w (look g S.env) (eb L (⟨d,.call al f args reg,none⟩::os) keep k S) (eb L os keep k (S.put d .undef)):=by
 rw[iB,iB];simp only[bI.run];rcases look g S.env with _|v
 ·simp[cN,jY]
 ·cases v with
  |bool b=>simp only[jY];cases b==w<;>simp
  |undef=>simp[jY]
  |_=>simp[cN,jY]
@[simp high] theorem anc{L:bC}{d:Option Nat}{f:bB}{args:List (Sh×bB)}{g:Nat}{w:Bool}{os:List bI}{keep:c9}{k:cH}{S:St} :
  eb L (⟨d,.mJ f args,some (g,w)⟩::os) keep k S=jY w (look g S.env) (eb L (⟨d,.mJ f args,none⟩::os) keep k S) (eb L os keep k (S.put d .undef)):=by
 rw[iB,iB];simp only[bI.run];rcases look g S.env with _|v
 ·simp[cN,jY]
 ·cases v with
  |bool b=>simp only[jY];cases b==w<;>simp
  |undef=>simp[jY]
  |_=>simp[cN,jY]
theorem Zi{reg:List (Nat×Nat)}{cs:List V}:recv reg (.agg cs)=(.agg (cV reg 0 cs).1,(cV reg 0 cs).2):=rfl
theorem Zj{reg:List (Nat×Nat)}{cs:List V}:recv reg (.tuple cs)=(.tuple (cV reg 0 cs).1,(cV reg 0 cs).2):=rfl
attribute [simp] Zi Zj
@[simp] theorem ane{reg:List (Nat×Nat)}{i:Nat} :
  cV reg i []=([],[]) ∧
  recv reg (.map i)=(strip (.map i),[]):=by and_intros<;>rfl
@[simp] theorem Zk{i:Nat}:∀{vs:List V},cV [] i vs=(vs.map strip,[])
 |[]=>rfl
 |v::vs=>by
  simp only[cV,Zk (i:=i+1) (vs:=vs)];cases v with
  |slice t n es=>cases t<;>rfl
  |_=>rfl
def J6(o:Option Nat)(n:Nat)(es:List (List V))(r:List V×List (Nat×Nat)):List V×List (Nat×Nat):=match o with
 |some f=>(.slice (some f) n es::r.1,(f,es.length)::r.2)
 |none=>(.slice none n es::r.1,r.2)
@[simp] theorem anf{f n:Nat}{es:List (List V)}{r:List V×List (Nat×Nat)}:J6 (some f) n es r=(.slice (some f) n es::r.1,(f,es.length)::r.2):=rfl
@[simp] theorem ang{n:Nat}{es:List (List V)}{r:List V×List (Nat×Nat)}:J6 none n es r=(.slice none n es::r.1,r.2):=rfl
@[simp] theorem anh{reg:List (Nat×Nat)}{i n t:Nat}{es:List (List V)}{vs:List V}:cV reg i (.slice (some t) n es::vs)=J6 (look i reg) n es (cV reg (i+1) vs):=by
 simp only[cV];cases look i reg<;>rfl
@[simp] theorem ani{reg:List (Nat×Nat)}{j:Nat}{us:List V}{k:IntKind}{n:Int}:cV reg j ((.int k n)::us)=(strip (.int k n)::(cV reg (j+1) us).1,(cV reg (j+1) us).2):=rfl
@[simp] theorem anj{reg:List (Nat×Nat)}{k:IntKind}{n:Int}:recv reg (.int k n)=(strip (.int k n),[]):=rfl
@[simp] theorem ank{reg:List (Nat×Nat)}{j:Nat}{us:List V}{b:Bool}:cV reg j ((.bool b)::us)=(strip (.bool b)::(cV reg (j+1) us).1,(cV reg (j+1) us).2):=rfl
@[simp] theorem anl{reg:List (Nat×Nat)}{b:Bool}:recv reg (.bool b)=(strip (.bool b),[]):=rfl
@[simp] theorem anm{reg:List (Nat×Nat)}{j:Nat}{us:List V}{s:List UInt8}:cV reg j ((.str s)::us)=(strip (.str s)::(cV reg (j+1) us).1,(cV reg (j+1) us).2):=rfl
@[simp] theorem ann{reg:List (Nat×Nat)}{s:List UInt8}:recv reg (.str s)=(strip (.str s),[]):=rfl
@[simp] theorem ano{reg:List (Nat×Nat)}{j:Nat}{us:List V} :
  cV reg j (.aK::us)=(strip .aK::(cV reg (j+1) us).1,(cV reg (j+1) us).2) ∧
  cV reg j (.fU::us)=(strip .fU::(cV reg (j+1) us).1,(cV reg (j+1) us).2) ∧
  cV reg j (.fP::us)=(strip .fP::(cV reg (j+1) us).1,(cV reg (j+1) us).2) ∧
  cV reg j (.fV::us)=(strip .fV::(cV reg (j+1) us).1,(cV reg (j+1) us).2) ∧
  cV reg j (.undef::us)=(strip .undef::(cV reg (j+1) us).1,(cV reg (j+1) us).2):=by and_intros<;>rfl
@[simp] theorem anp{reg:List (Nat×Nat)} :
  recv reg .aK=(strip .aK,[]) ∧
  recv reg .fU=(strip .fU,[]) ∧
  recv reg .fP=(strip .fP,[]) ∧
  recv reg .fV=(strip .fV,[]) ∧
  recv reg .undef=(strip .undef,[]):=by and_intros<;>rfl
@[simp] theorem anq{reg:List (Nat×Nat)}{j:Nat}{us:List V}{z:Nat}{es:List (List V)}:cV reg j ((.slice none z es)::us)=(strip (.slice none z es)::(cV reg (j+1) us).1,(cV reg (j+1) us).2):=rfl
@[simp] theorem anr{reg:List (Nat×Nat)}{z:Nat}{es:List (List V)}:recv reg (.slice none z es)=(strip (.slice none z es),[]):=rfl
@[simp] theorem ant{reg:List (Nat×Nat)}{j:Nat}{us:List V}{cs:List V}:cV reg j ((.agg cs)::us)=(strip (.agg cs)::(cV reg (j+1) us).1,(cV reg (j+1) us).2):=rfl
@[simp] theorem anu{reg:List (Nat×Nat)}{j:Nat}{us:List V}{vs:List V}:cV reg j ((.tuple vs)::us)=(strip (.tuple vs)::(cV reg (j+1) us).1,(cV reg (j+1) us).2):=rfl
@[simp] theorem anv{reg:List (Nat×Nat)}{j:Nat}{us:List V}{r:List V}{o:Nat}:cV reg j ((.fc r o)::us)=(strip (.fc r o)::(cV reg (j+1) us).1,(cV reg (j+1) us).2):=rfl
@[simp] theorem anw{reg:List (Nat×Nat)}{r:List V}{o:Nat}:recv reg (.fc r o)=(strip (.fc r o),[]):=rfl
@[simp] theorem anx{reg:List (Nat×Nat)}{j:Nat}{us:List V}{i o:Nat} :
  cV reg j ((.bK i o)::us)=(strip (.bK i o)::(cV reg (j+1) us).1,(cV reg (j+1) us).2) ∧
  cV reg j ((.bN i o)::us)=(strip (.bN i o)::(cV reg (j+1) us).1,(cV reg (j+1) us).2):=by and_intros<;>rfl
@[simp] theorem anz{reg:List (Nat×Nat)}{i o:Nat} :
  recv reg (.bK i o)=(strip (.bK i o),[]) ∧
  recv reg (.bN i o)=(strip (.bN i o),[]):=by and_intros<;>rfl
@[simp] theorem anA{reg:List (Nat×Nat)}{j:Nat}{us:List V}{i o l:Nat}:cV reg j ((.b0 i o l)::us)=(strip (.b0 i o l)::(cV reg (j+1) us).1,(cV reg (j+1) us).2):=rfl
@[simp] theorem anB{reg:List (Nat×Nat)}{i o l:Nat}:recv reg (.b0 i o l)=(strip (.b0 i o l),[]):=rfl
@[simp] theorem anC{reg:List (Nat×Nat)}{j:Nat}{us:List V}{f:FuncId}{c:List V}:cV reg j ((.fn f c)::us)=(strip (.fn f c)::(cV reg (j+1) us).1,(cV reg (j+1) us).2):=rfl
@[simp] theorem anD{reg:List (Nat×Nat)}{f:FuncId}{c:List V}:recv reg (.fn f c)=(strip (.fn f c),[]):=rfl
@[simp] theorem anE{reg:List (Nat×Nat)}{j:Nat}{us:List V}{i:Nat}:cV reg j ((.map i)::us)=(strip (.map i)::(cV reg (j+1) us).1,(cV reg (j+1) us).2):=rfl
@[simp] theorem anF{reg:List (Nat×Nat)}{n t:Nat}{es:List (List V)}:recv reg (.slice (some t) n es)=match cV reg 0 [.slice (some t) n es] with
  |([u],ts)=>(u,ts)
  |_=>(.undef,[]):=rfl
theorem FP{α:Type}(g:α→Int):∀l:List α,lz [none] (l.map fun j=>[V.int .i64 (g j)])=some (l.map fun j=>[V.int .i64 (g j)])
 |[]=>rfl
 |a::l=>by simp[lz,lS,el,FP g l]
theorem C2{sz:Nat}:∀(cs:List V) (off n:Nat),sz=1→off+n≤cs.length→chunks sz cs off n=((cs.drop off).take n).map fun v=>[v]
 |cs,off,0,_,_=>by simp[chunks]
 |cs,off,n+1,h,hn=>by
  subst h;rw[chunks,C2 cs (off+1) n rfl (by omega),List.drop_eq_getElem_cons (show off<cs.length by omega)]
  simp only[List.take_succ_cons,List.take_zero,List.map_cons]
@[simp] theorem anG{n:Nat}{f:Nat→Int}:lz [none] (chunks 1 (eX n f) 0 n)=some ((List.range n).map fun j=>[V.int .i64 (f j)]):=by
 rw[C2 _ _ _ rfl (by simp)]
 rw[List.drop_zero,Y5,eX,List.map_map];exact FP f _
theorem Qp{n:Nat}:List.replicate n (V.int .i64 0)=eX n fun _=>0:=by
 rw[←Qj,rep]
@[simp] theorem anH{n:Nat}:(List.replicate n [V.int .i64 0]).flatten=eX n fun _=>0:=by
 rw[←Qj,rep];simp
@[simp] theorem anI{x y:Nat} :
  V.ik x y .undef=.undef ∧
  V.ik x y .aK=.aK ∧
  V.ik x y .fU=.fU ∧
  V.ik x y .fP=.fP ∧
  V.ik x y .fV=.fV:=by and_intros<;>rfl
@[simp] theorem anJ{x:Nat} :
  V.forget x .undef=.undef ∧
  V.forget x .aK=.aK ∧
  V.forget x .fU=.fU ∧
  V.forget x .fP=.fP ∧
  V.forget x .fV=.fV:=by and_intros<;>rfl
@[simp] theorem anK{k:IntKind}{n:Int}{x y:Nat}:V.ik x y (.int k n)=.int k n:=rfl
@[simp] theorem anL{k:IntKind}{n:Int}{x:Nat}:V.forget x (.int k n)=.int k n:=rfl
@[simp] theorem anM{b:Bool}{x y:Nat}:V.ik x y (.bool b)=.bool b:=rfl
@[simp] theorem anN{b:Bool}{x:Nat}:V.forget x (.bool b)=.bool b:=rfl
@[simp] theorem anO{s:List UInt8}{x y:Nat}:V.ik x y (.str s)=.str s:=rfl
@[simp] theorem anP{s:List UInt8}{x:Nat}:V.forget x (.str s)=.str s:=rfl
@[simp] theorem anQ{z:Nat}{es:List (List V)}{x y:Nat}:V.ik x y (.slice none z es)=.slice none z es:=rfl
@[simp] theorem anR{z:Nat}{es:List (List V)}{x:Nat}:V.forget x (.slice none z es)=.slice none z es:=rfl
@[simp] theorem anS{t z:Nat}{es:List (List V)}{x y:Nat}:V.ik x y (.slice (some t) z es:V)=.slice (some t) z es:=rfl
@[simp] theorem anT{t z:Nat}{es:List (List V)}{x:Nat}:V.forget x (.slice (some t) z es:V)=bif t==x then .slice none z es else .slice (some t) z es:=rfl
@[simp] theorem anU{cs:List V}{x y:Nat}:V.ik x y (.agg cs)=.agg cs:=rfl
@[simp] theorem anV{cs:List V}{x:Nat}:V.forget x (.agg cs)=.agg cs:=rfl
@[simp] theorem anW{vs:List V}{x y:Nat}:V.ik x y (.tuple vs)=.tuple vs:=rfl
@[simp] theorem anX{vs:List V}{x:Nat}:V.forget x (.tuple vs)=.tuple vs:=rfl
@[simp] theorem anY{r:List V}{o:Nat}{x y:Nat}:V.ik x y (.fc r o)=.fc r o:=rfl
@[simp] theorem anZ{r:List V}{o:Nat}{x:Nat}:V.forget x (.fc r o)=.fc r o:=rfl
@[simp] theorem an0{i o:Nat}{x y:Nat} :
  V.ik x y (.bK i o)=.bK i o ∧
  V.ik x y (.bN i o)=.bN i o:=by and_intros<;>rfl
@[simp] theorem an1{i o:Nat}{x:Nat} :
  V.forget x (.bK i o)=.bK i o ∧
  V.forget x (.bN i o)=.bN i o:=by and_intros<;>rfl
@[simp] theorem an2{i o l:Nat}{x y:Nat}:V.ik x y (.b0 i o l)=bif i==x then .b0 y o l else .b0 i o l:=rfl
@[simp] theorem an3{i o l:Nat}{x:Nat}:V.forget x (.b0 i o l)=.b0 i o l:=rfl
@[simp] theorem an4{f:FuncId}{c:List V}{x y:Nat}:V.ik x y (.fn f c)=.fn f c:=rfl
@[simp] theorem an5{f:FuncId}{c:List V}{x:Nat}:V.forget x (.fn f c)=.fn f c:=rfl
@[simp] theorem an6{i:Nat}{x y:Nat}:V.ik x y (.map i)=.map i:=rfl
@[simp] theorem an7{i:Nat}{x:Nat}:V.forget x (.map i)=.map i:=rfl
@[simp] theorem sn0{i s n:Nat}{d:Nat} :
  V.cI d (.dB i s n)=false ∧
  V.dC d (.dB i s n)=false ∧
  V.cu d (.dB i s n)=false:=by and_intros<;>rfl
@[simp] theorem sn1{i s n:Nat} :
  V.cM (.dB i s n)=true ∧
  V.plain (.dB i s n)=false ∧
  V.iz (.dB i s n)=false ∧
  V.iJ (.dB i s n)=false ∧
  V.lone (.dB i s n)=false ∧
  V.cells (.dB i s n)=[.dB i s n] ∧
  gY (.dB i s n)=.dB i s n ∧
  strip (.dB i s n)=.dB i s n ∧
  V.j9 (.dB i s n)=.dB i s n ∧
  V.kF (.dB i s n)=.dB i s n:=by and_intros<;>rfl
@[simp] theorem sn2{i s n:Nat}{x y:Nat}:V.ik x y (.dB i s n)=.dB i s n:=rfl
@[simp] theorem sn3{i s n:Nat}{x:Nat}:V.forget x (.dB i s n)=.dB i s n:=rfl
@[simp] theorem sn4{reg:List (Nat×Nat)}{j:Nat}{us:List V}{i s n:Nat}:cV reg j ((.dB i s n)::us)=(strip (.dB i s n)::(cV reg (j+1) us).1,(cV reg (j+1) us).2):=rfl
@[simp] theorem sn5{reg:List (Nat×Nat)}{i s n:Nat}:recv reg (.dB i s n)=(strip (.dB i s n),[]):=rfl
@[simp] theorem sn6{i s o n:Nat}{d:Nat} :
  V.cI d (.gj i s o n)=(i==d) ∧
  V.dC d (.gj i s o n)=(i==d) ∧
  V.cu d (.gj i s o n)=(i==d):=by and_intros<;>rfl
@[simp] theorem sn7{i s o n:Nat} :
  V.cM (.gj i s o n)=true ∧
  V.plain (.gj i s o n)=false ∧
  V.iz (.gj i s o n)=false ∧
  V.iJ (.gj i s o n)=false ∧
  V.lone (.gj i s o n)=false ∧
  V.cells (.gj i s o n)=[.gj i s o n] ∧
  gY (.gj i s o n)=.gj i s o n ∧
  strip (.gj i s o n)=.gj i s o n ∧
  V.j9 (.gj i s o n)=.gj i s o n ∧
  V.kF (.gj i s o n)=.gj i s o n:=by and_intros<;>rfl
@[simp] theorem sn8{i s o n:Nat}{x y:Nat}:V.ik x y (.gj i s o n)=.gj i s o n:=rfl
@[simp] theorem sn9{i s o n:Nat}{x:Nat}:V.forget x (.gj i s o n)=.gj i s o n:=rfl
@[simp] theorem aoi{reg:List (Nat×Nat)}{j:Nat}{us:List V}{i s o n:Nat}:cV reg j ((.gj i s o n)::us)=(strip (.gj i s o n)::(cV reg (j+1) us).1,(cV reg (j+1) us).2):=rfl
@[simp] theorem aoj{reg:List (Nat×Nat)}{i s o n:Nat}:recv reg (.gj i s o n)=(strip (.gj i s o n),[]):=rfl
def dS(l:List Int):List V:=l.map fun n=>.int .i64 n
@[simp] theorem Zl{l:List Int}:(dS l).length=l.length:=by simp[dS]
@[simp] theorem aok{l:List Int}{i:Nat}{v:Int}:(dS l).set i (.int .i64 v)=dS (l.set i v):=by simp[dS]
theorem kT{l:List Int}{i:Nat}(h:i<l.length):(dS l)[i]?=some (.int .i64 (nth l i)):=by simp[dS,eB h]
@[simp] theorem Zm{l:List Int}{d:Nat}:(dS l).all (fun v => !v.cI d)=true:=by simp[dS,V.cI]
@[simp] theorem Qq{l:List Int}:(l.map fun n=>[V.int .i64 n]).flatten=dS l:=by
 induction l with
 |nil=>rfl
 |cons a l ih=>simp only[List.map_cons,List.flatten_cons,ih];rfl
@[simp] theorem J7{l:List Int}{n:Nat}(h:n=l.length):lz [none] (chunks 1 (dS l) 0 n)=some (l.map fun n=>[V.int .i64 n]):=by
 subst h;rw[C2 _ _ _ rfl (by simp)]
 rw[List.drop_zero,List.take_of_length_le (by simp),dS,List.map_map]
 exact FP (fun n=>n) l
@[simp] theorem aol{l m:List Int}:dS l++dS m=dS (l++m):=by simp[dS]
@[simp] theorem aom{l:List Int}{a:Int}:dS l++[V.int .i64 a]=dS (l++[a]):=by simp[dS]
def kp{α:Type}(o:Option α)(s:Nat)(r:List (Nat×α)):List (Nat×α):=match o with
 |some v=>(s,v)::r
 |none=>r
@[simp] theorem aon{α:Type}{v:α}{s:Nat}{r:List (Nat×α)}:kp (some v) s r=(s,v)::r:=rfl
@[simp] theorem aoo{α:Type}{s:Nat}{r:List (Nat×α)}:kp none s r=r:=rfl
@[simp low] theorem aop{α:Type}{env:List (Nat×α)}{s:Nat}{l:List Nat}:rX env (s::l)=kp (look s env) s (rX env l):=by
 simp only[rX];cases look s env<;>rfl
@[simp low] theorem aoq{α:Type}{env:List (Nat×α)}:rX env []=[]:=rfl
attribute [simp] xG ly St.take St.ug mL bI.run VO.run St.ev oD St.put V.bin BV St.keep ta s9 wE wD mj oz qZ el lS
 jB.fits St.nb loadAt St.fits jc ki ra lV wC V.un EG St.kD pI rV nT xI St.kE iR.run St.rows St.rU St.oy St.share St.zY s8 St.uZ
@[simp] theorem Zn{a b:Nat}:Nat.ble a b=decide (a≤b):=by
 by_cases h:a≤b
 ·simp[h,Nat.ble_eq]
 ·simp only[h,decide_false]
  exact Bool.eq_false_iff.2 (fun e=>h (Nat.le_of_ble_eq_true e))
@[simp] theorem aor{a b:Nat}:Nat.blt a b=decide (a<b):=by
 rw[Nat.blt,Zn];rfl
attribute [simp] List.getElem?_cons_zero List.getElem?_cons_succ
theorem AS{G r:List aV}{a:aV}:(G++a::r)[G.length]?=some a:=by simp
theorem Qr{G r:List aV}{a b:aV}:(G++a::b::r)[G.length+1]?=some b:=by
 rw[List.getElem?_append_right (by omega)];simp
def vB(S:St)(ids:List Nat)(rs sh:Sh):Option V→Option V
 |some (.b0 id s n)=>S.zX ids rs id s n
 |some v=>ra sh v
 |none=>none
@[simp] theorem aos{S:St}{ids:List Nat}:oA S ids []=some []:=rfl
@[simp] theorem aot{S:St}{ids:List Nat}{rs sh:Sh}{x:bB}{xs:List (Sh×Sh×bB)}:oA S ids ((rs,sh,x)::xs)=match vB S ids rs sh (S.ev x),oA S ids xs with
  |some u,some us=>some (u::us)
  |_,_=>none:=by
 simp only[oA];rcases S.ev x with _|v
 ·rfl
 ·cases v<;>rfl
@[simp] theorem aou{S:St}{ids:List Nat}{rs sh:Sh}{id s n:Nat}:vB S ids rs sh (some (.b0 id s n))=bif ids.contains id then (match S.rU rs (.b0 id s n) with|some es=>some (V.slice none rs.length es)|none=>none) else none:=rfl
@[simp] theorem aov{S:St}{ids:List Nat}{rs sh:Sh}{k:IntKind}{n:Int}:vB S ids rs sh (some (.int k n))=ra sh (.int k n):=rfl
@[simp] theorem aow{S:St}{ids:List Nat}{rs sh:Sh}{b:Bool}:vB S ids rs sh (some (.bool b))=ra sh (.bool b):=rfl
@[simp] theorem aox{S:St}{ids:List Nat}{rs sh:Sh}{s:List UInt8}:vB S ids rs sh (some (.str s))=ra sh (.str s):=rfl
@[simp] theorem aoy{S:St}{ids:List Nat}{rs sh:Sh}:vB S ids rs sh (some .aK)=ra sh .aK:=rfl
@[simp] theorem aoz{S:St}{ids:List Nat}{rs sh:Sh}{t:Option Nat}{n:Nat}{es:List (List V)}:vB S ids rs sh (some (.slice t n es))=ra sh (.slice t n es):=rfl
@[simp] theorem aoA{S:St}{ids:List Nat}{rs sh:Sh}{n:Nat}:vB S ids rs sh (some (.dZ n))=ra sh (.dZ n):=rfl
@[simp] theorem aoB{S:St}{ids:List Nat}{rs sh:Sh}{cs:List V}:vB S ids rs sh (some (.agg cs))=ra sh (.agg cs):=rfl
def J8(L:bC)(d:Option Nat)(S:St)(os:List bI)(keep:c9)(k:cH):V×List aV→Prop:=fun r=>r.1.oB=true∧eb L os keep k (S.put d r.1)
@[simp] theorem Zo{L:bC}{d:Option Nat}{S:St}{os:List bI}{keep:c9}{k:cH}{r:V}{G:List aV}:J8 L d S os keep k (r,G)=(r.oB=true∧eb L os keep k (S.put d r)):=rfl
def Qs(L:bC)(d:Option Nat)(g:FuncId)(S:St)(os:List bI)(keep:c9)(k:cH):List V→Prop:=fun vs=>cN (L g vs []) (J8 L d S os keep k)
@[simp] theorem Zp{L:bC}{d:Option Nat}{g:FuncId}{S:St}{os:List bI}{keep:c9}{k:cH}{vs:List V}:Qs L d g S os keep k vs=cN (L g vs []) (J8 L d S os keep k):=rfl
@[simp high] theorem aoC{L:bC}{d:Option Nat}{g:FuncId}{args:List (Sh×Sh×bB)}{ids:List Nat}{os:List bI}{keep:c9}{k:cH}{S:St} :
  eb L (⟨d,.pg (.c (.fn g [])) args ids,none⟩::os) keep k S=cN (oA S ids args) (Qs L d g S os keep k):=by
 rw[iB];simp only[bI.run,VO.run,St.ev];cases oA S ids args with
 |none=>simp[cN]
 |some vs =>
  simp only[rz,Zp];rcases L g vs []with _ | ⟨r,G⟩
  ·simp[cN]
  ·simp only[rz,Zo]
   cases r.oB<;>simp[cN]
@[simp high] theorem aoD{L:bC}{d:Option Nat}{f:bB}{args:List (Sh×Sh×bB)}{ids:List Nat}{g:Nat}{w:Bool}{os:List bI}{keep:c9}{k:cH}{S:St} :
  eb L (⟨d,.pg f args ids,some (g,w)⟩::os) keep k S=jY w (look g S.env) (eb L (⟨d,.pg f args ids,none⟩::os) keep k S) (eb L os keep k (S.put d .undef)):=by
 rw[iB,iB];simp only[bI.run];rcases look g S.env with _|v
 ·simp[cN,jY]
 ·cases v with
  |bool b=>simp only[jY];cases b==w<;>simp
  |undef=>simp[jY]
  |_=>simp[cN,jY]
@[simp] theorem aoE{k:IntKind}{n:Int}:V.oB (.int k n)=true:=rfl
@[simp] theorem aoF{b:Bool}:V.oB (.bool b)=true:=rfl
@[simp] theorem aoG{s:List UInt8}:V.oB (.str s)=true:=rfl
attribute [simp] V.oB V.sc
end Go.Vm
