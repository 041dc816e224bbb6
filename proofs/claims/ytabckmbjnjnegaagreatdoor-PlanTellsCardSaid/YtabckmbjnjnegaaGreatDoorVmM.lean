/- - -/
import Derived.Test.YtabckmbjnjnegaaGreatDoorVmI
namespace Go.Vm
set_option linter.all false
def c8{α:Type}(o:Option α)(P:α->Prop):Prop:=∃a,o=some a/\P a
variable{α:Type}
@[congr] theorem aDx{o o':Option α}{P:α->Prop}(h:o=o'):c8 o P=c8 o' P:=by rw[h]
@[simp] theorem wS{a:α}{P:α->Prop}:c8 (some a) P=P a:=by simp[c8]
def xW(o:Option V)(A B:Prop):Prop:=∃t,o=some (.bool t)/\(bif t then A else B)
variable{A B:Prop}
@[congr] theorem aDz{o o':Option V}(h:o=o'):xW o A B=xW o' A B:=by rw[h]
@[simp] theorem aDA:xW (some (.bool true)) A B=A:=by simp[xW]
@[simp] theorem aDB:xW (some (.bool false)) A B=B:=by simp[xW]
variable{p:Prop}
def bO{dp:Decidable p}(ha:p->A)(hb:¬p->B):xW (some (.bool (decide p))) A B:=by
 by_cases h:p
 .simpa [h] using ha h
 .simpa [h] using hb h
def jb{t:Bool}(ha:t=true->A)(hb:t=false->B):xW (some (.bool t)) A B:=by
 cases t
 .simpa using hb rfl
 .simpa using ha rfl
abbrev cT:=sa->St->Prop
def go(L:bI)(c:VC)(S:St)(k:cT):Prop:=∃n e T,VC.run L n c S=some (e,T)/\k e T
variable{L:bI}{S S':St}{k:cT}
@[congr] theorem go_congr{c:VC}(h:S=S'):go L c S k=go L c S' k:=by rw[h]
variable{n m:Nat}
def Az(h:n<=m){c:VC}{x:sa×St}(hr:VC.run L n c S=some x):VC.run L m c S=some x :=
 Dx (λ_ _ _ _ h=>h) h hr
def go.mono{c:VC}{k':cT}(h:go L c S k)(hk:∀e T,k e T->k' e T):go L c S k':=by
 obtain⟨n,e,T,h1,h2⟩:=h;exact⟨n,e,T,h1,hk _ _ h2⟩
def sq(L:bI)(b:VC)(k:cT):cT:=λe T=>match e with
 |.normal=>go L b T k
 |.exit i=>k (.exit i) T
 |.ret=>k .ret T
variable{T:St}
@[simp] theorem aDC{b:VC}:sq L b k .normal T=go L b T k:=rfl
variable{i:Nat}
@[simp] theorem aDD{b:VC}:sq L b k (.exit i) T=k (.exit i) T:=rfl
@[simp] theorem aDE{b:VC}:sq L b k .ret T=k .ret T:=rfl
def bk(id:Nat)(k:cT):cT:=λe T=>match e with
 |.normal=>k .normal T
 |.exit i=>bif i==id then k .normal T else k (.exit i) T
 |.ret=>k .ret T
variable{id:Nat}
@[simp] theorem aDF:bk id k .normal T=k .normal T:=rfl
def KC(b:Bool)(k:cT)(i:Nat)(T:St):Prop:=bif b then k .normal T else k (.exit i) T
variable{b:Bool}
@[congr] theorem aDG{b':Bool}(h:b=b'):KC b k i T=KC b' k i T:=by rw[h]
@[simp] theorem aDH:KC true k i T=k .normal T:=rfl
@[simp] theorem aDI:KC false k i T=k (.exit i) T:=rfl
@[simp] theorem aDJ:bk id k (.exit i) T=KC (i==id) k i T:=rfl
@[simp] theorem aDK:bk id k .ret T=k .ret T:=rfl
def eA(L:bI)(os:List cf)(keep:dG)(k:cT):St->Prop:=λS=>∃T,iZ L os S=some T/\k .normal (T.keep keep)
variable{os:List cf}{keep:dG}
@[congr] theorem aDL(h:S=S'):eA L os keep k S=eA L os keep k S':=by rw[h]
@[simp] theorem aDM:eA L [] keep k S=k .normal (S.keep keep):=by simp[eA,iZ]
variable{op:VO}
@[simp] theorem aDN{d:Option Nat}:eA L (⟨d,op,none⟩::os) keep k S=c8 (op.run L d S) (eA L os keep k):=by
 unfold eA c8;simp only[iZ,cf.run];cases op.run L d S<;>simp
def jU{o:cf}:eA L (o::os) keep k S=c8 (o.run L S) (eA L os keep k):=by
 unfold eA c8;simp only[iZ];cases o.run L S<;>simp
def mV{α:Type}(c:Bool)(a b:α):α:=bif c then a else b
@[congr] theorem aDO{c c':Bool}{a a' b b':α}(hc:c=c')(ha:c'=true->a=a')(hb:c'=false->b=b'):mV c a b=mV c' a' b':=by
 subst hc;cases c
 .exact hb rfl
 .exact ha rfl
variable{q:Prop}
@[congr] theorem aDP{dp:Decidable p}[dq:Decidable q]{a a' b b':α}(hc:p=q)(ha:q->a=a')(hb:¬q->b=b'):@mV α (@decide p dp) a b=mV (decide q) a' b':=by
 subst hc;by_cases h:p
 .simp[mV,h,ha h]
 .simp[mV,h,hb h]
def lX{a b:Int}:(a==b)=decide (a=b):=by by_cases h:a=b<;>simp[h]
def mW{a b:Int}:(a != b) = !decide (a=b):=by by_cases h:a=b<;>simp[h]
def mX{dp:Decidable p}{a b:α}(h:p):(bif decide p then a else b)=a:=by simp[h]
@[simp] theorem aDQ{k:Int}:decide (k<=(lim:Int))=decide (k<=4294967296):=rfl
@[simp] theorem aDR{k:Nat}:decide (k<=lim)=decide (k<=4294967296):=rfl
def mY{dp:Decidable p}{dq:Decidable q}{a b:α}(h:p/\q):(bif decide p&&decide q then a else b)=a:=by simp[h.1,h.2]
@[simp] theorem aDS{a b:α}:mV true a b=a:=rfl
@[simp] theorem aDT{a b:α}:mV false a b=b:=rfl
@[simp] theorem aDU{c:Bool}{a b:α}:mV (!c) a b=mV c b a:=by cases c<;>rfl
@[simp] theorem aDV{c:Bool}{a b:α}:mV c (some a) (some b)=some (mV c a b):=by cases c<;>rfl
@[simp] theorem aDW{c a:Bool}:mV c (V.bool a) (V.bool b)=V.bool (bif c then a else b):=by cases c<;>rfl
def lg(o:Option V)(w:Bool)(x:Option V):Option V :=
 match o with
 |some (.bool b)=>bif b==w then x else some .undef
 |some .undef=>some .undef
 |_=>none
@[simp] theorem aDX{x:Option V}:lg (some (.bool b)) true x=mV b x (some .undef):=by cases b<;>rfl
@[simp] theorem aDY{x:Option V}:lg (some (.bool b)) false x=mV b (some .undef) x:=by cases b<;>rfl
variable{w:Bool}
@[simp] theorem aDZ{x:Option V}:lg (some .undef) w x=some .undef:=rfl
variable{v:V}
@[simp] theorem aD0{c:Bool}{x:Option V}:lg (some (mV c (.bool b) v)) w x=mV c (lg (some (.bool b)) w x) (lg (some v) w x):=by cases c<;>rfl
@[simp] theorem aD1{c:Bool}{x:Option V}:lg (some (mV c v (.bool b))) w x=mV c (lg (some v) w x) (lg (some (.bool b)) w x):=by cases c<;>rfl
def BB(t:Option V)(x y:Option V):Option V:=match t with
 |some (.bool b)=>mV b x y
 |_=>none
@[simp] theorem aD2{x y:Option V}:BB (some (.bool b)) x y=mV b x y:=rfl
def mw(L:bI)(d:Nat)(S:St)(os:List cf)(keep:dG)(k:cT):V->Prop:=λv=>eA L os keep k (S.put (some d) v)
variable{d:Nat}
@[simp] theorem aD3:mw L d S os keep k v=eA L os keep k { S with env:=(d,v)::S.env }:=rfl
variable{g:Nat}
def qU{x:Option V}(hrun:op.run L (some d) S=x.map (S.put (some d))) :
  c8 (cf.run L ⟨some d,op,some (g,w)⟩ S) (eA L os keep k)=c8 (lg (look g S.env) w x) (mw L d S os keep k):=by
 unfold cf.run lg;simp only;cases look g S.env with
 |none=>simp[c8]
 |some v =>
  cases v with
  |bool b =>
   simp only[hrun];cases b==w with
   |true=>cases x<;>simp[c8,mw]
   |false=>simp[c8,mw]
  |undef=>simp[c8,mw]
  |_=>simp[c8]
@[simp high] theorem aD4{c a b:bG} :
  eA L (⟨some d,.pick c a b,none⟩::os) keep k S=c8 (BB (S.ev c) (S.ev a) (S.ev b)) (mw L d S os keep k):=by
 rw[jU];simp only[cf.run,VO.run];rcases S.ev c with _|v
 .simp[c8,BB]
 .cases v with
  |bool t =>
   cases t
   .simp only[BB,mV,gL]
    cases S.ev b<;>simp[c8,mw]
   .simp only[BB,mV,bW]
    cases S.ev a<;>simp[c8,mw]
  |_=>simp[c8,BB]
@[simp] theorem aD5{x:bG} :
  eA L (⟨some d,.mv x,some (g,w)⟩::os) keep k S=c8 (lg (look g S.env) w (S.ev x)) (mw L d S os keep k):=by
 rw[jU];refine qU ?_;simp only[VO.run]
 repeat' split
 all_goals (first|rfl|simp_all[St.put])
@[simp] theorem aD6{c a b:bG} :
  eA L (⟨some d,.pick c a b,some (g,w)⟩::os) keep k S=c8 (lg (look g S.env) w (BB (S.ev c) (S.ev a) (S.ev b))) (mw L d S os keep k):=by
 rw[jU];refine qU ?_;simp only[VO.run];rcases S.ev c with _|v
 .rfl
 .cases v with
  |bool t =>
   cases t
   .simp only[BB,mV,gL]
    cases S.ev b<;>rfl
   .simp only[BB,mV,bW]
    cases S.ev a<;>rfl
  |_=>rfl
@[simp] theorem aD7{z:List V}{ps:List (Nat×Nat×bG)} :
  eA L (⟨some d,.build z ps,some (g,w)⟩::os) keep k S=c8 (lg (look g S.env) w (match uq S ps z with|some cs=>some (.agg cs)|none=>none)) (mw L d S os keep k):=by
 rw[jU];refine qU ?_;simp only[VO.run]
 repeat' split
 all_goals (first|rfl|simp_all[St.put])
@[simp] theorem aD8{r:kE}{z:Option Nat}{p:bG} :
  eA L (⟨some d,.load r z p,some (g,w)⟩::os) keep k S=c8 (lg (look g S.env) w (match S.ev p with|some v=>bif r.fits v then (match S.pC v with|some (cs,off)=>(loadAt z cs off).map (vx r)|none=>none) else none|none=>none)) (mw L d S os keep k):=by
 rw[jU];refine qU ?_;simp only[VO.run];rcases S.ev p with _|v
 .rfl
 .simp only
  cases r.fits v with
  |false=>rfl
  |true =>
   rcases S.pC v with _ | ⟨cs,off⟩
   .rfl
   .simp only[bW]
    rcases loadAt z cs off with _|u<;>rfl
@[simp] theorem aD9{x:bG} :
  eA L (⟨some d,.xu x,some (g,w)⟩::os) keep k S=c8 (lg (look g S.env) w (match S.ev x with|some (.bn i o)=>some (.bn i o)|some (.bu i o)=>some (.bu i o)|some (.ff r o)=>some (.ff r o)|_=>none)) (mw L d S os keep k):=by
 rw[jU];refine qU ?_;simp only[VO.run]
 repeat' split
 all_goals (first|rfl|simp_all[St.put])
@[simp] theorem aEa{o:BinOp}{x y:bG} :
  eA L (⟨some d,.bin o x y,some (g,w)⟩::os) keep k S=c8 (lg (look g S.env) w (match S.ev x,S.ev y with|some a,some b=>V.bin o a b|_,_=>none)) (mw L d S os keep k):=by
 rw[jU];refine qU ?_;simp only[VO.run]
 repeat' split
 all_goals (first|rfl|simp_all[St.put])
@[simp] theorem aEb{n:Bool}{x y:bG} :
  eA L (⟨some d,.beq n x y,some (g,w)⟩::os) keep k S=c8 (lg (look g S.env) w (match S.ev x,S.ev y with|some (.bool a),some (.bool b)=>some (.bool (bif n then a != b else a==b))|_,_=>none)) (mw L d S os keep k):=by
 rw[jU];refine qU ?_;simp only[VO.run]
 repeat' split
 all_goals (first|rfl|simp_all[St.put])
@[simp] theorem aEc{n:Bool}{ks:List Nat}{x y:bG} :
  eA L (⟨some d,.iI n ks x y,some (g,w)⟩::os) keep k S=c8 (lg (look g S.env) w (match S.ev x,S.ev y with|some a,some b=>V.iI n ks a b|_,_=>none)) (mw L d S os keep k):=by
 rw[jU];refine qU ?_;simp only[VO.run]
 repeat' split
 all_goals (first|rfl|simp_all[St.put])
@[simp] theorem aEd{o:UnOp}{x:bG} :
  eA L (⟨some d,.un o x,some (g,w)⟩::os) keep k S=c8 (lg (look g S.env) w (match S.ev x with|some a=>V.un o a|none=>none)) (mw L d S os keep k):=by
 rw[jU];refine qU ?_;simp only[VO.run]
 repeat' split
 all_goals (first|rfl|simp_all[St.put])
@[simp] theorem aEe{kk:IntKind}{x:bG} :
  eA L (⟨some d,.conv kk x,some (g,w)⟩::os) keep k S=c8 (lg (look g S.env) w (match S.ev x with|some (.int _ n)=>some (.int kk (kk.wrap n))|_=>none)) (mw L d S os keep k):=by
 rw[jU];refine qU ?_;simp only[VO.run]
 repeat' split
 all_goals (first|rfl|simp_all[St.put])
@[simp] theorem aEf{x:bG} :
  eA L (⟨some d,.xv n x,some (g,w)⟩::os) keep k S=c8 (lg (look g S.env) w (match S.ev x with|some (.bn i o)=>some (.bn i (o+n))|some (.bu i o)=>some (.bu i (o+n))|some (.ff r o)=>some (.ff r (o+n))|_=>none)) (mw L d S os keep k):=by
 rw[jU];refine qU ?_;simp only[VO.run]
 repeat' split
 all_goals (first|rfl|simp_all[St.put])
@[simp] theorem aEg{x:bG} :
  eA L (⟨some d,.len x,some (g,w)⟩::os) keep k S=c8 (lg (look g S.env) w (match S.ev x with|some .cj=>some (.int .i64 0)|some (.er _)=>some (.int .i64 0)|some (.gF _)=>some (.int .i64 0)|some (.slice _ _ es)=>some (.int .i64 es.length)|some (.bY _ _ n)=>some (.int .i64 n)|some (.cO _ _ n)=>some (.int .i64 n)|_=>none)) (mw L d S os keep k):=by
 rw[jU];refine qU ?_;simp only[VO.run]
 repeat' split
 all_goals (first|rfl|simp_all[St.put])
@[simp] theorem aEi{x:bG} :
  eA L (⟨some d,.ext x i,some (g,w)⟩::os) keep k S=c8 (lg (look g S.env) w (match S.ev x with|some (.tuple vs)=>vs[i]? | _=>none)) (mw L d S os keep k):=by
 rw[jU];refine qU ?_;simp only[VO.run]
 repeat' split
 all_goals (first|rfl|simp_all[St.put])
@[simp] theorem aEj{z:Option Nat}{x:bG} :
  eA L (⟨some d,.field n z x,some (g,w)⟩::os) keep k S=c8 (lg (look g S.env) w (match S.ev x with|some (.agg cs)=>loadAt z cs n|_=>none)) (mw L d S os keep k):=by
 rw[jU];refine qU ?_;simp only[VO.run]
 repeat' split
 all_goals (first|rfl|simp_all[St.put])
@[simp] theorem aEk{m:Bool}{x y:bG} :
  eA L (⟨some d,.mm m x y,some (g,w)⟩::os) keep k S=c8 (lg (look g S.env) w (match S.ev x,S.ev y with|some (.int k a),some (.int _ b)=>some (.int k (bif m then max a b else min a b))|_,_=>none)) (mw L d S os keep k):=by
 rw[jU];refine qU ?_;simp only[VO.run];rcases S.ev x with _|a
 .rfl
 .rcases S.ev y with _|b
  .cases a<;>rfl
  .cases a<;>cases b<;>rfl
@[simp] theorem aEl{m:Bool}{x y z:bG} :
  eA L (⟨some d,.xA m x y z,some (g,w)⟩::os) keep k S=c8 (lg (look g S.env) w (match S.ev x,S.ev y,S.ev z with|some (.int k a),some (.int _ b),some (.int _ c)=>some (.int k (bif m then max (max a b) c else min (min a b) c))|_,_,_=>none)) (mw L d S os keep k):=by
 rw[jU];refine qU ?_;simp only[VO.run];rcases S.ev x with _|a
 .rfl
 .rcases S.ev y with _|b
  .cases a<;>rfl
  .rcases S.ev z with _|c
   .cases a<;>cases b<;>rfl
   .cases a<;>cases b<;>cases c<;>rfl
@[simp] theorem aEn{x i:bG} :
  eA L (⟨some d,.r7 none n x i,some (g,w)⟩::os) keep k S=c8 (lg (look g S.env) w (match S.ev x,S.ev i with
   |some (.slice _ m es),some (.int _ k)=>bif decide (0<=k)&&(m==n) then (match es[k.toNat]? with|some r=>some (.ff r 0)|none=>none) else none
   |some (.bY id off ln),some (.int _ k)=>bif decide (0<=k)&&decide (k<ln)&&(off==n) then some (.bn id (k.toNat*n)) else none
   |some (.cO id off ln),some (.int _ k)=>bif decide (0<=k)&&decide (k<ln)&&(off==n) then some (.bu id (k.toNat*n)) else none
   |_,_=>none)) (mw L d S os keep k):=by
 rw[jU];refine qU ?_;simp only[VO.run];rcases S.ev x with _|v
 .rfl
 .rcases S.ev i with _|j
  .cases v<;>rfl
  .cases v with
   |slice t m es =>
    cases j with
    |int kk q =>
     simp only;cases (decide (0<=q)&&(m==n)) with
     |false=>rfl
     |true =>
      simp only[bW];rcases es[q.toNat]? with _|u<;>rfl
    |_=>rfl
   |bY id off ln =>
    cases j with
    |int kk q =>
     simp only;cases (decide (0<=q)&&decide (q<ln)&&(off==n)) with
     |false=>rfl
     |true=>rfl
    |_=>rfl
   |cO id off ln =>
    cases j with
    |int kk q =>
     simp only;cases (decide (0<=q)&&decide (q<ln)&&(off==n)) with
     |false=>rfl
     |true=>rfl
    |_=>rfl
   |_=>cases j<;>rfl
def nth{α:Type}[Inhabited α](l:List α)(i:Nat):α:=l.getD i default
def bc[Inhabited α]{l:List α}(h:i<l.length):l[i]?=some (nth l i):=by
 simp[nth,List.getD,h]
variable{l:List Int}
def dQ(h:i<l.length):l[i]?=some (nth l i):=bc h
def lk{α:Type}(b:Bool)(v:α)(s:Nat)(r:List (Nat×α)):Option α:=bif b then some v else look s r
variable{s:Nat}
@[simp] theorem aEo{k:Nat}{v:α}{r:List (Nat×α)}:look s ((k,v)::r)=lk (k==s) v s r:=rfl
@[simp] theorem aEp:look s ([]:List (Nat×α))=none:=rfl
@[simp] theorem aEq{v:α}{r:List (Nat×α)}:lk true v s r=some v:=rfl
@[simp] theorem aEr{v:α}{r:List (Nat×α)}:lk false v s r=look s r:=rfl
def zi{α:Type}(d:Nat)(l:List (Nat×α)):List (Nat×α):=l.filter λp => !(p.1==d)
def OA{α:Type}(b:Bool)(k:Nat)(v:α)(r:List (Nat×α)):List (Nat×α):=bif b then r else (k,v)::r
@[simp] theorem aEs{k:Nat}{v:α}{r:List (Nat×α)}:OA true k v r=r:=rfl
@[simp] theorem aEt{k:Nat}{v:α}{r:List (Nat×α)}:OA false k v r=(k,v)::r:=rfl
@[simp] theorem aEu:zi d ([]:List (Nat×α))=[]:=rfl
@[simp] theorem aEv{k:Nat}{v:α}{r:List (Nat×α)}:zi d ((k,v)::r)=OA (k==d) k v (zi d r):=by
 unfold zi OA;cases h:k==d<;>simp[List.filter,h]
@[simp] theorem aEw{l:List (Nat×α)}:(l.filter λp => !(p.1==d))=zi d l:=rfl
@[simp] theorem aEx:S.clean []=some S:=rfl
@[simp] theorem aEy{ds:List Nat}:S.clean (d::ds)=bif ((zi d S.env).all λp => !p.2.cI d)&&((zi d S.aY).all λp=>p.2.all λv => !v.cQ d) then
  St.clean { env:=zi d S.env,aY:=zi d S.aY,bo:=zi d S.bo,aC:=S.aC } ds else none:=rfl
def KD{β:Type}{a:α}{b:β}{k:α->β->Prop}:(∃e T,(a=e/\b=T)/\k e T)<->k a b :=
 ⟨λ⟨_,_,⟨h,h'⟩,hk⟩=>by subst h;subst h';exact hk,λh=>⟨_,_,⟨rfl,rfl⟩,h⟩⟩
def clk(L:bI)(ids:List Nat)(os:List cf)(keep:dG)(k:cT):St->Prop:=λS=>c8 (S.clean ids) (eA L os keep k)
variable{ids:List Nat}
@[simp] theorem ao0:clk L ids os keep k S=c8 (S.clean ids) (eA L os keep k):=rfl
variable{gh:List iP}
@[simp] theorem aEz:go L (.Es gh) S k=c8 (qh gh S) (k .ret):=by
 refine propext ⟨?_,?_⟩
 .rintro⟨n,e,T,h,hk⟩
  simp only[VC.run]at h;split at h
  next S' h1=>cases h;exact⟨_,h1,hk⟩
  .cases h
 .rintro⟨S',h1,hk⟩
  exact⟨0,_,_,by simp only[VC.run,h1],hk⟩
@[simp] theorem aEA:go L .dead S k=False:=by simp[go,VC.run,KD]
@[simp] theorem go_skip:go L .skip S k=k .normal S:=by simp[go,VC.run,KD]
@[simp] theorem aEB:go L (.exit i) S k=k (.exit i) S:=by simp[go,VC.run,KD]
@[simp] theorem go_ret:go L .ret S k=k .ret S:=by simp[go,VC.run,KD]
@[simp] theorem go_region :
  go L (.region gh ids os keep) S k=c8 (qh gh S) (clk L ids os keep k):=by
 unfold go c8;simp only[VC.run,ao0];cases qh gh S with
 |none=>simp
 |some S1 =>
  simp only[Option.some.injEq,exists_eq_left',c8];cases S1.clean ids with
  |none=>simp
  |some S2 =>
   simp only[Option.some.injEq,exists_eq_left',eA];cases iZ L os S2 with
   |none=>simp
   |some S3=>simp[KD]
variable{a:VC}
@[simp] theorem aEC{b:VC}:go L (.seq a b) S k=go L a S (sq L b k):=by
 refine propext ⟨?_,?_⟩
 .rintro⟨n,e,T,h,hk⟩
  simp only[VC.run]at h;split at h
  next S' h1=>exact⟨n,_,_,h1,n,_,_,h,hk⟩
  next i S' h1=>cases h;exact⟨n,_,_,h1,hk⟩
  next S' h1=>cases h;exact⟨n,_,_,h1,hk⟩
  .cases h
 .rintro⟨n,e,T,h,hk⟩
  cases e with
  |normal =>
   obtain⟨m,e,T',h',hk⟩:=hk;refine⟨n+m,e,T',?_,hk⟩;simp only[VC.run,Az (Nat.le_add_right n m) h,Az (Nat.le_add_left m n) h']
  |exit i=>exact⟨n,_,_,by simp only[VC.run,h],hk⟩
  |ret=>exact⟨n,_,_,by simp only[VC.run,h],hk⟩
@[simp] theorem aED{c:bG}{b:VC}:go L (.cond c a b) S k=xW (S.ev c) (go L a S k) (go L b S k):=by
 refine propext ⟨?_,?_⟩
 .rintro⟨n,e,T,h,hk⟩
  simp only[VC.run]at h;split at h
  next t hc=>
   refine⟨t,hc,?_⟩;cases t with
   |true=>exact⟨n,e,T,h,hk⟩
   |false=>exact⟨n,e,T,h,hk⟩
  .cases h
 .rintro⟨t,hc,h⟩
  cases t with
  |true=>obtain⟨n,e,T,h,hk⟩:=h;exact⟨n,e,T,by simp only[VC.run,hc,bW];exact h,hk⟩
  |false=>obtain⟨n,e,T,h,hk⟩:=h;exact⟨n,e,T,by simp only[VC.run,hc,gL];exact h,hk⟩
@[simp] theorem aEE:go L (.block id a) S k=go L a S (bk id k):=by
 refine propext ⟨?_,?_⟩
 .rintro⟨n,e,T,h,hk⟩
  simp only[VC.run]at h;split at h
  next S' h1=>cases h;exact⟨n,_,_,h1,hk⟩
  next i S' h1=>
   refine⟨n,_,_,h1,?_⟩;cases hi:i==id with
   |true=>simp only[hi,bW]at h;cases h;simp only[bk,hi,bW];exact hk
   |false=>simp only[hi,gL]at h;cases h;simp only[bk,hi,gL];exact hk
  next S' h1=>cases h;exact⟨n,_,_,h1,hk⟩
  .cases h
 .rintro⟨n,e,T,h,hk⟩
  cases e with
  |normal=>exact⟨n,_,_,by simp only[VC.run,h],hk⟩
  |exit i =>
   cases hi:i==id with
   |true=>simp only[bk,hi,bW]at hk;exact⟨n,_,_,by simp only[VC.run,h,hi,bW],hk⟩
   |false=>simp only[bk,hi,gL]at hk;exact⟨n,_,_,by simp only[VC.run,h,hi,gL],hk⟩
  |ret=>exact⟨n,_,_,by simp only[VC.run,h],hk⟩
def OB{α:Type}(keep:dG)(st:α->St)(I:α->Prop)(mu:α->Nat)(m:Nat)(k:cT):cT:=λe T=>match e with
 |.normal=>∃y,T.keep keep=st y/\I y/\mu y<m
 |.exit i=>k (.exit i) T
 |.ret=>k .ret T
@[simp] theorem aEF{st:α->St}{I:α->Prop}{mu:α->Nat}:OB keep st I mu m k (.exit i) T=k (.exit i) T:=rfl
@[simp] theorem aEG{st:α->St}{I:α->Prop}{mu:α->Nat}:OB keep st I mu m k .ret T=k .ret T:=rfl
def bB{st:α->St}{I:α->Prop}{mu:α->Nat}(y:α)(h:T.keep keep=st y)(hi:I y)(hm:mu y<m):OB keep st I mu m k .normal T:=⟨y,h,hi,hm⟩
def bB'{st:α->St}{I:α->Prop}{mu:α->Nat}(y:α)(hi:I y:=by omega)(h:T.keep keep=st y:=by simp)(hm:mu y<m:=by omega):OB keep st I mu m k .normal T:=⟨y,h,hi,hm⟩
def go_loop{c:VC}(st:α->St)(I:α->Prop)(mu:α->Nat)(x:α)(hc:c=.loop gh keep a)(hS:c8 (qh gh S) λS=>S.keep keep=st x)(hI:I x)
  (step:∀x,I x->go L a (st x) (OB keep st I mu (mu x) k)):go L c S k:=by
 subst hc;obtain⟨S1,hg,hS⟩:=hS
 suffices h:∀m x S,S.keep keep=st x->mu x<m->I x->∃n e T,iter (λS=>VC.run L n a (S.keep keep)) n S=some (e,T)/\k e T by
  obtain⟨n,e,T,h1,h2⟩:=h (mu x+1) x S1 hS (by omega) hI
  exact⟨n,e,T,by simp only[VC.run,hg];exact h1,h2⟩
 intro m;induction m with
 |zero=>intro x S _ h;omega
 |succ m ih =>
  intro x S hS hm hI;obtain⟨n,e,T,h1,h2⟩:=step x hI;rw[<-hS]at h1;cases e with
  |normal =>
   obtain⟨y,hT,hy,bJ⟩:=h2;obtain⟨n',e,T,h3,h4⟩:=ih y T hT (by omega) hy
   refine⟨n+n'+1,e,T,?_,h4⟩;simp only[iter];rw[Az (by omega) h1]
   exact Ky (λS x h=>Az (by omega) h) (by omega) h3
  |exit i=>exact⟨n+1,_,_,by simp only[iter];rw[Az (by omega) h1],h2⟩
  |ret=>exact⟨n+1,_,_,by simp only[iter];rw[Az (by omega) h1],h2⟩
def gz(L:bI)(f:FuncId)(args:List V)(G:List aM)(Q:V->List aM->Prop):Prop:=∃r G',L f args G=some (r,G')/\Q r G'
def xX(rs:List vw)(Q:V->List aM->Prop):cT:=λe T=>match e with
 |.normal=>c8 (yO T rs) λv=>Q v T.aC
 |.ret=>c8 (yO T rs) λv=>Q v T.aC
 |.exit _=>False
variable{Q:V->List aM->Prop}
@[simp] theorem aEH{rs:List vw}:xX rs Q .normal T=c8 (yO T rs) λv=>Q v T.aC:=rfl
@[simp] theorem aEI{rs:List vw}:xX rs Q .ret T=c8 (yO T rs) λv=>Q v T.aC:=rfl
variable{vf:bb}{G:List aM}
def gN{F:FuncId->Option bb}{f:FuncId}(hf:F f=some vf){args:List V}(hl:(args.length==vf.nparams&&vf.defs.isEmpty&&vf.split.isNone)=true)
  (h:go (aX F) vf.body { env:=sM 0 args,aY:=[],bo:=[],aC:=G } (xX vf.results Q)):gz (aX F) f args G Q:=by
 simp only[bZ,M7,GD]at hl;obtain⟨⟨hl,hd⟩,hs⟩:=hl;obtain⟨n,e,T,h1,h2⟩:=h;cases e with
 |exit i=>exact h2.elim
 |normal =>
  obtain⟨v,h3,h4⟩:=h2;exact⟨v,T.aC,abv hf (n:=n) hd hs (by simp only[bb.call,hl,bW,h1,h3]),h4⟩
 |ret =>
  obtain⟨v,h3,h4⟩:=h2;exact⟨v,T.aC,abv hf (n:=n) hd hs (by simp only[bb.call,hl,bW,h1,h3]),h4⟩
variable{off:Nat}
def ao1{F:FuncId->Option bb}{f:FuncId}(hf:F f=some vf)(hl:(1==vf.nparams && !vf.defs.isEmpty&&vf.split.isNone)=true)
  (h:go (aX F) vf.body { env:=sM 0 [.bu i off],aY:=[],bo:=[],aC:=G } (xX vf.results λ_ G1=>∃G2,sN (aX F) [.bu i off] vf.defs.reverse G1=some G2/\Q (.tuple []) G2)):gz (aX F) f [.bu i off] G Q:=by
 simp only[bZ,xo,List.isEmpty_eq_false_iff,GD]at hl;obtain⟨⟨hl,hd⟩,hs⟩:=hl;obtain⟨n,e,T,h1,h2⟩:=h;cases e with
 |exit i=>exact h2.elim
 |normal =>
  obtain⟨v,h3,G2,h4,h5⟩:=h2;exact⟨_,G2,abx hf (n:=n) hd hs (r:=v) (by simp only[bb.call,rQ,hl,bW,h1,h3]) h4,h5⟩
 |ret =>
  obtain⟨v,h3,G2,h4,h5⟩:=h2;exact⟨_,G2,abx hf (n:=n) hd hs (r:=v) (by simp only[bb.call,rQ,hl,bW,h1,h3]) h4,h5⟩
variable{G':List aM}{r:V}
def bD{F:FuncId->Option bb}{f:FuncId}(hf:F f=some vf){args:List V}(hl:(args.length==vf.nparams&&vf.defs.isEmpty&&vf.split.isNone)=true)
  (h:go (aX F) vf.body { env:=sM 0 args,aY:=[],bo:=[],aC:=G } (xX vf.results λv G1=>v=r/\G1=G')):aX F f args G=some (r,G'):=by
 obtain⟨_,_,h1,rfl,rfl⟩:=gN hf hl h;exact h1
def TS{F:FuncId->Option bb}{f:FuncId}(hf:F f=some vf){args:List V}{p:Nat}(hl:(args.length==vf.nparams&&vf.defs.isEmpty)=true)(hs:vf.split=some p)(hp:args[p]?=some (.slice none m []))
  (h:go (aX F) vf.body { env:=sM 0 (args.set p .cj),aY:=[],bo:=[],aC:=G } (xX vf.results λv G1=>v=r/\G1=G'))
  (h':go (aX F) vf.body { env:=sM 0 (args.set p (.gF m)),aY:=[],bo:=[],aC:=G } (xX vf.results λv G1=>v=r/\G1=G')):aX F f args G=some (r,G'):=by
 simp only[bZ,M7]at hl;obtain⟨hl,hd⟩:=hl;have key:∀u,go (aX F) vf.body { env:=sM 0 (args.set p u),aY:=[],bo:=[],aC:=G } (xX vf.results λv G1=>v=r/\G1=G')->∃n,vf.call (aX F) n (args.set p u) G=some (r,G'):=λu h=>by
  obtain⟨n,e,T,h1,h2⟩:=h;have OC:((args.set p u).length==vf.nparams)=true:=by rw[qI];exact hl
  cases e with
  |exit i=>exact h2.elim
  |normal =>
   obtain⟨v,h3,rfl,rfl⟩:=h2;exact⟨n,by simp only[bb.call,OC,bW,h1,h3]⟩
  |ret =>
   obtain⟨v,h3,rfl,rfl⟩:=h2;exact⟨n,by simp only[bb.call,OC,bW,h1,h3]⟩
 obtain⟨n,h1⟩:=key _ h;obtain⟨k,h2⟩:=key _ h';exact aoQ hf hd hs hp h1 h2
def TT{F:FuncId->Option bb}{f:FuncId}(hf:F f=some vf){args:List V}{p:Nat}(hl:(args.length==vf.nparams&&vf.defs.isEmpty)=true)(hs:vf.split=some p)(hp:∀m,args[p]?≠some (.slice none m []))
  (h:go (aX F) vf.body { env:=sM 0 args,aY:=[],bo:=[],aC:=G } (xX vf.results λv G1=>v=r/\G1=G')):aX F f args G=some (r,G'):=by
 simp only[bZ,M7]at hl;obtain⟨hl,hd⟩:=hl;obtain⟨n,e,T,h1,h2⟩:=h;cases e with
 |exit i=>exact h2.elim
 |normal =>
  obtain⟨v,h3,rfl,rfl⟩:=h2;exact abw hf (n:=n) hd hs hp (by simp only[bb.call,hl,bW,h1,h3])
 |ret =>
  obtain⟨v,h3,rfl,rfl⟩:=h2;exact abw hf (n:=n) hd hs hp (by simp only[bb.call,hl,bW,h1,h3])
abbrev i64(n:Int):V:=.int .i64 n
def wrap64{n:Int}(h1:-9223372036854775808<=n)(h2:n<=9223372036854775807):IntKind.i64.wrap n=n:=by
 simp[IntKind.wrap,IntKind.bits,IntKind.signed];omega
def rep{α:Type}(n:Nat)(x:α):List α:=List.replicate n x
@[simp] theorem aEJ{x:α}:(rep n x).length=n:=by simp[rep]
def fj(n:Nat)(f:Nat->Int):List V:=(List.range n).map λj=>.int .i64 (f j)
variable{f:Nat->Int}
@[simp] theorem aEK:(fj n f).length=n:=by simp[fj]
def TU{g:Nat->Int}(h:∀j,j<n->f j=g j):fj n f=fj n g:=by
 unfold fj;apply M8;intro j hj;rw[h j (by simpa using hj)]
def sw(h:i<n):(fj n f)[i]?=some (.int .i64 (f i)):=by simp[fj,h]
@[simp] theorem aEL{v:Int}:(fj n f).set i (.int .i64 v)=fj n λj=>if j=i then v else f j:=by
 apply A4;intro k;by_cases hk:k<n
 .by_cases h:i=k
  .subst h
   rw[Zs (by simpa using hk),sw hk]
   simp
  .rw[Zr h,sw hk,sw hk,ax (λe=>h e.symm)]
 .rw[kW (by simp;omega),kW (by simp;omega)]
@[simp] theorem aEM:(fj n f).all V.c5=true:=by
 simp[fj,V.c5]
@[simp] theorem aEN:(fj n f).all (λv => !v.cQ d)=true:=by
 simp[fj,V.cQ]
@[simp] theorem aEO:(fj n f).all V.jF=true:=by
 simp[fj,V.jF,V.plain]
@[simp] theorem aEP:(fj n f).map iY=fj n f:=by
 simp[fj,iY]
@[simp] theorem aEQ:(fj n f).map strip=fj n f:=by
 simp[fj,strip,iY]
@[simp] theorem aER:(fj n f).any (V.cQ d)=false:=by
 simp[fj,V.cQ]
@[simp] theorem ao2:(fj n f).take n=fj n f:=kD (by simp)
def abG{S:St}{used:List Nat}{α:Type}(g:α->Int):∀l:List α,pE S (List.replicate l.length none) used (l.map λj=>.int .i64 (g j))=some (l.map λj=>.int .i64 (g j),used)
 |[]=>rfl
 |a::l=>by simp[CM,pE,CT,sL,el,abG g l]
@[simp] theorem aES{used:List Nat}:pE S (rep n none) used (fj n f)=some (fj n f,used):=by
 unfold rep;have:=abG (S:=S) (used:=used) f (List.range n)
 rwa [RW]at this
@[simp] theorem abH:rep n (V.int .i64 0)=fj n λ_=>0:=by
 simp[rep,fj,List.map_const']
def TV:∀(cs:List V) (off:Nat) (vs:List V),off+vs.length<=cs.length->jE cs off vs=cs.take off++vs++cs.drop (off+vs.length)
 |cs,off,[],h=>by simp[jE]
 |cs,off,v::vs,h=>by
  simp only[vp]at h;rw[jE,TV _ _ _ (by simp;omega)]
  apply A4;intro i;simp only[vp,rP,CJ,jQ,qI,jP,lM,mJ,List.getElem?_cons];rcases Js i off with h1|h1|h1
  .simp (disch:=omega) [h1,aJ,ax]
  .subst h1
   grind
  .grind
variable{vs:List V}
def ao3{cs:List V}(h:vs.length=cs.length):jE cs 0 vs=vs:=by
 rw[TV _ _ _ (by omega)]
 simp[h]
@[simp] theorem aET{g:Nat->Int}:jE (fj n f) 0 (fj n g)=fj n g:=ao3 (by simp)
@[simp] theorem sm0 :
  V.cQ d .undef=false /\
  V.dW d .undef=false /\
  V.cI d .undef=false /\
  V.cQ d .cj=false /\
  V.dW d .cj=false /\
  V.cI d .cj=false /\
  V.cQ d .ig=false /\
  V.dW d .ig=false /\
  V.cI d .ig=false /\
  V.cQ d .ij=false /\
  V.dW d .ij=false /\
  V.cI d .ij=false /\
  V.cQ d .ik=false /\
  V.dW d .ik=false /\
  V.cI d .ik=false:=by and_intros<;>rfl
@[simp] theorem sm1  :
  V.c5 .undef=false /\
  V.cells .undef=[.undef] /\
  V.plain .undef=false /\
  V.jF .undef=false /\
  V.jS .undef=false /\
  V.lone .undef=false /\
  iY .undef=.undef /\
  strip .undef=.undef /\
  V.c5 .cj=true /\
  V.cells .cj=[.cj] /\
  V.plain .cj=true /\
  V.jF .cj=true /\
  V.jS .cj=true /\
  V.lone .cj=true /\
  iY .cj=.cj /\
  strip .cj=.cj /\
  V.c5 .ig=true /\
  V.cells .ig=[.ig] /\
  V.plain .ig=false /\
  V.jF .ig=false /\
  V.jS .ig=false /\
  V.lone .ig=false /\
  iY .ig=.ig /\
  strip .ig=.ig /\
  V.c5 .ij=true /\
  V.cells .ij=[.ij] /\
  V.plain .ij=false /\
  V.jF .ij=false /\
  V.jS .ij=false /\
  V.lone .ij=false /\
  iY .ij=.ij /\
  strip .ij=.ij /\
  V.c5 .ik=true /\
  V.cells .ik=[.ik] /\
  V.plain .ik=false /\
  V.jF .ik=false /\
  V.jS .ik=false /\
  V.lone .ik=false /\
  iY .ik=.ik /\
  strip .ik=.ik /\
  V.kq .cj=.cj /\
  V.ml .cj=.cj /\
  V.kq .ig=.ig /\
  V.ml .ig=.ig /\
  V.kq .ij=.ij /\
  V.ml .ij=.ij /\
  V.kq .ik=.ik /\
  V.ml .ik=.ik:=by and_intros<;>rfl
@[simp] theorem sm2{k:IntKind}{n:Int} :
  V.cQ d (.int k n)=false /\
  V.dW d (.int k n)=false /\
  V.cI d (.int k n)=false:=by and_intros<;>rfl
@[simp] theorem sm3{k:IntKind}{n:Int} :
  V.c5 (.int k n)=true /\
  V.cells (.int k n)=[.int k n] /\
  V.plain (.int k n)=true /\
  V.jF (.int k n)=true /\
  V.jS (.int k n)=true /\
  V.lone (.int k n)=true /\
  iY (.int k n)=.int k n /\
  strip (.int k n)=.int k n /\
  V.kq (.int k n)=.int k n /\
  V.ml (.int k n)=.int k n:=by and_intros<;>rfl
@[simp] theorem sm4 :
  V.cQ d (.bool b)=false /\
  V.dW d (.bool b)=false /\
  V.cI d (.bool b)=false:=by and_intros<;>rfl
@[simp] theorem sm5 :
  V.c5 (.bool b)=true /\
  V.cells (.bool b)=[.bool b] /\
  V.plain (.bool b)=true /\
  V.jF (.bool b)=true /\
  V.jS (.bool b)=true /\
  V.lone (.bool b)=true /\
  iY (.bool b)=.bool b /\
  strip (.bool b)=.bool b /\
  V.kq (.bool b)=.bool b /\
  V.ml (.bool b)=.bool b:=by and_intros<;>rfl
@[simp] theorem sm6{s:List UInt8} :
  V.cQ d (.str s)=false /\
  V.dW d (.str s)=false /\
  V.cI d (.str s)=false:=by and_intros<;>rfl
@[simp] theorem sm7{s:List UInt8} :
  V.c5 (.str s)=true /\
  V.cells (.str s)=[.str s] /\
  V.plain (.str s)=true /\
  V.jF (.str s)=true /\
  V.jS (.str s)=true /\
  V.lone (.str s)=true /\
  iY (.str s)=.str s /\
  strip (.str s)=.str s /\
  V.kq (.str s)=.str s /\
  V.ml (.str s)=.str s:=by and_intros<;>rfl
variable{z:Nat}{es:List (List V)}
@[simp] theorem sm8 :
  V.cQ d (.slice none z es)=false /\
  V.dW d (.slice none z es)=false /\
  V.cI d (.slice none z es)=false:=by and_intros<;>rfl
@[simp] theorem sm9 :
  V.c5 (.slice none z es)=true /\
  V.cells (.slice none z es)=[.slice none z es] /\
  V.plain (.slice none z es)=true /\
  V.jF (.slice none z es)=true /\
  V.jS (.slice none z es)=true /\
  V.lone (.slice none z es)=true /\
  iY (.slice none z es)=.slice none z es /\
  strip (.slice none z es)=.slice none z es:=by and_intros<;>rfl
@[simp] theorem aE4{t:Nat} :
  V.cQ d (.slice (some t) z es:V)=(t==d) /\
  V.dW d (.slice (some t) z es:V)=(t==d) /\
  V.cI d (.slice (some t) z es:V)=(t==d):=by and_intros<;>rfl
@[simp] theorem aE5{t:Nat} :
  V.c5 (.slice (some t) z es:V)=true /\
  V.cells (.slice (some t) z es:V)=[.slice (some t) z es] /\
  V.plain (.slice (some t) z es:V)=false /\
  V.jF (.slice (some t) z es:V)=true /\
  V.jS (.slice (some t) z es:V)=true /\
  V.lone (.slice (some t) z es:V)=true /\
  iY (.slice (some t) z es:V)=.slice none z es /\
  strip (.slice (some t) z es:V)=.slice none z es:=by and_intros<;>rfl
@[simp] theorem aE6{cs:List V} :
  V.cQ d (.agg cs)=true /\
  V.dW d (.agg cs)=cs.any (V.cQ d) /\
  V.cI d (.agg cs)=cs.any (V.cQ d):=by and_intros<;>rfl
@[simp] theorem aE7{cs:List V} :
  V.c5 (.agg cs)=false /\
  V.cells (.agg cs)=cs /\
  V.plain (.agg cs)=false /\
  V.jF (.agg cs)=false /\
  V.jS (.agg cs)=cs.all V.jF /\
  V.lone (.agg cs)=cs.all V.jF /\
  iY (.agg cs)=.agg cs /\
  strip (.agg cs)=.agg (cs.map iY) /\
  V.ml (.agg cs)=.agg (cs.map V.kq):=by and_intros<;>rfl
@[simp] theorem aE8 :
  V.cQ d (.tuple vs)=true /\
  V.dW d (.tuple vs)=true /\
  V.cI d (.tuple vs)=vs.any (V.dW d):=by and_intros<;>rfl
@[simp] theorem aE9 :
  V.c5 (.tuple vs)=false /\
  V.cells (.tuple vs)=[.tuple vs] /\
  V.plain (.tuple vs)=false /\
  V.jF (.tuple vs)=false /\
  V.jS (.tuple vs)=false /\
  V.lone (.tuple vs)=vs.all V.jS /\
  iY (.tuple vs)=.tuple vs /\
  strip (.tuple vs)=.tuple vs:=by and_intros<;>rfl
variable{o:Nat}
@[simp] theorem aFa{r:List V} :
  V.cQ d (.ff r o)=false /\
  V.dW d (.ff r o)=false /\
  V.cI d (.ff r o)=false:=by and_intros<;>rfl
@[simp] theorem aFb{r:List V} :
  V.c5 (.ff r o)=true /\
  V.cells (.ff r o)=[.ff r o] /\
  V.plain (.ff r o)=false /\
  V.jF (.ff r o)=false /\
  V.jS (.ff r o)=false /\
  V.lone (.ff r o)=false /\
  iY (.ff r o)=.ff r o /\
  strip (.ff r o)=.ff r o:=by and_intros<;>rfl
@[simp] theorem aFc :
  V.cQ d (.bn i o)=(i==d) /\
  V.dW d (.bn i o)=(i==d) /\
  V.cI d (.bn i o)=(i==d) /\
  V.cQ d (.bu i o)=false /\
  V.dW d (.bu i o)=false /\
  V.cI d (.bu i o)=false:=by and_intros<;>rfl
@[simp] theorem aFd :
  V.c5 (.bn i o)=true /\
  V.cells (.bn i o)=[.bn i o] /\
  V.plain (.bn i o)=false /\
  V.jF (.bn i o)=false /\
  V.jS (.bn i o)=false /\
  V.lone (.bn i o)=false /\
  iY (.bn i o)=.bn i o /\
  strip (.bn i o)=.bn i o /\
  V.c5 (.bu i o)=true /\
  V.cells (.bu i o)=[.bu i o] /\
  V.plain (.bu i o)=false /\
  V.jF (.bu i o)=false /\
  V.jS (.bu i o)=false /\
  V.lone (.bu i o)=false /\
  iY (.bu i o)=.bu i o /\
  strip (.bu i o)=.bu i o /\
  V.kq (.bu i o)=.bu i o /\
  V.ml (.bu i o)=.bu i o:=by and_intros<;>rfl
@[simp] theorem aFe{l:Nat} :
  V.cQ d (.bY i o l)=(i==d) /\
  V.dW d (.bY i o l)=(i==d) /\
  V.cI d (.bY i o l)=(i==d):=by and_intros<;>rfl
@[simp] theorem aFf{l:Nat} :
  V.c5 (.bY i o l)=true /\
  V.cells (.bY i o l)=[.bY i o l] /\
  V.plain (.bY i o l)=false /\
  V.jF (.bY i o l)=false /\
  V.jS (.bY i o l)=false /\
  V.lone (.bY i o l)=false /\
  iY (.bY i o l)=.bY i o l /\
  strip (.bY i o l)=.bY i o l /\
  V.kq (.bY i o l)=.bY i o l /\
  V.ml (.bY i o l)=.bY i o l:=by and_intros<;>rfl
variable{c:List V}
@[simp] theorem aFg{f:FuncId} :
  V.cQ d (.fn f c)=false /\
  V.dW d (.fn f c)=false /\
  V.cI d (.fn f c)=false:=by and_intros<;>rfl
@[simp] theorem aFh{f:FuncId} :
  V.c5 (.fn f c)=true /\
  V.cells (.fn f c)=[.fn f c] /\
  V.plain (.fn f c)=false /\
  V.jF (.fn f c)=false /\
  V.jS (.fn f c)=false /\
  V.lone (.fn f c)=false /\
  iY (.fn f c)=.fn f c /\
  strip (.fn f c)=.fn f c /\
  V.kq (.fn f c)=.fn f c /\
  V.ml (.fn f c)=.fn f c:=by and_intros<;>rfl
@[simp] theorem aFi :
  V.cQ d (.map i)=false /\
  V.dW d (.map i)=false /\
  V.cI d (.map i)=false:=by and_intros<;>rfl
@[simp] theorem aFj :
  V.c5 (.map i)=true /\
  V.cells (.map i)=[.map i] /\
  V.plain (.map i)=false /\
  V.jF (.map i)=false /\
  V.jS (.map i)=false /\
  V.lone (.map i)=false /\
  iY (.map i)=.map i /\
  strip (.map i)=.map i /\
  V.kq (.map i)=.map i /\
  V.ml (.map i)=.map i:=by and_intros<;>rfl
@[simp] theorem aFk :
  V.cQ d (.eC n es)=false /\
  V.dW d (.eC n es)=false /\
  V.cI d (.eC n es)=false:=by and_intros<;>rfl
@[simp] theorem aFl :
  V.c5 (.eC n es)=true /\
  V.cells (.eC n es)=[.eC n es] /\
  V.plain (.eC n es)=false /\
  V.jF (.eC n es)=false /\
  V.jS (.eC n es)=false /\
  V.lone (.eC n es)=false /\
  iY (.eC n es)=.eC n es /\
  strip (.eC n es)=.eC n es /\
  V.kq (.eC n es)=.slice none n es /\
  V.ml (.eC n es)=.slice none n es:=by and_intros<;>rfl
variable{t:Option Nat}
@[simp] theorem aFm :
  V.kq (.slice t n es)=.slice t n es /\
  V.ml (.slice t n es)=.slice t n es:=by and_intros<;>rfl
@[simp] theorem aFn :
  V.cQ d (.er n)=false /\
  V.dW d (.er n)=false /\
  V.cI d (.er n)=false /\
  V.cQ d (.gF n)=false /\
  V.dW d (.gF n)=false /\
  V.cI d (.gF n)=false:=by and_intros<;>rfl
@[simp] theorem aFo :
  V.c5 (.er n)=true /\
  V.cells (.er n)=[.er n] /\
  V.plain (.er n)=false /\
  V.jF (.er n)=false /\
  V.jS (.er n)=false /\
  V.lone (.er n)=false /\
  iY (.er n)=.er n /\
  strip (.er n)=.er n /\
  V.kq (.er n)=.er n /\
  V.ml (.er n)=.er n /\
  V.c5 (.gF n)=true /\
  V.cells (.gF n)=[.gF n] /\
  V.plain (.gF n)=false /\
  V.jF (.gF n)=false /\
  V.jS (.gF n)=false /\
  V.lone (.gF n)=false /\
  iY (.gF n)=.gF n /\
  strip (.gF n)=.gF n /\
  V.kq (.gF n)=.gF n /\
  V.ml (.gF n)=.gF n:=by and_intros<;>rfl
@[simp] theorem aFp:iY (.slice t z es:V)=.slice none z es:=by cases t<;>rfl
@[simp] theorem aFq:strip (.slice t z es:V)=.slice none z es:=by cases t<;>rfl
@[simp] theorem aFr:V.jF (.slice t z es:V)=true:=by cases t<;>rfl
@[simp] theorem aFs:V.jS (.slice t z es:V)=true:=by cases t<;>rfl
@[simp] theorem aFt:V.lone (.slice t z es:V)=true:=by cases t<;>rfl
@[simp] theorem aFu:V.c5 (.slice t z es:V)=true:=by cases t<;>rfl
@[simp] theorem aFv:V.cells (.slice t z es:V)=[.slice t z es]:=by cases t<;>rfl
@[simp] theorem aFw:vx .mM v=v:=rfl
@[simp] theorem aFx:vx (.loc i) v=v:=rfl
@[simp] theorem aFy:vx .aC v=v.ml:=rfl
def TW(L:bI)(d:Option Nat)(reg:List (Nat×Nat))(S:St)(os:List cf)(keep:dG)(k:cT):V×List aM->Prop:=λr =>
 r.1.lone=true/\eA L os keep k ({ S with bo:=(recv reg r.1).2++S.bo }.put d (recv reg r.1).1)
variable{reg:List (Nat×Nat)}
@[simp] theorem ao4{d:Option Nat} :
  TW L d reg S os keep k (r,G)=(r.lone=true/\eA L os keep k ({ S with bo:=(recv reg r).2++S.bo }.put d (recv reg r).1)):=rfl
def clA(L:bI)(d:Option Nat)(g:FuncId)(reg:List (Nat×Nat))(S:St)(os:List cf)(keep:dG)(k:cT):List V->Prop:=λvs=>c8 (L g vs []) (TW L d reg S os keep k)
@[simp] theorem ao5{d:Option Nat}{g:FuncId} :
  clA L d g reg S os keep k vs=c8 (L g vs []) (TW L d reg S os keep k):=rfl
variable{args:List (Sh×bG)}
@[simp high] theorem aFz{d:Option Nat}{g:FuncId} :
  eA L (⟨d,.call true (.c (.fn g [])) args reg,none⟩::os) keep k S=c8 (oZ S args) (clA L d g reg S os keep k):=by
 rw[jU];simp only[cf.run,VO.run,St.ev];cases oZ S args with
 |none=>simp[c8]
 |some vs =>
  simp only[wS,ao5];rcases L g vs []with _ | ⟨r,G⟩
  .simp[c8]
  .simp only[wS,ao4]
   cases r.lone<;>simp[c8]
def TX(L:bI)(d:Option Nat)(reg:List (Nat×Nat))(S:St)(os:List cf)(keep:dG)(k:cT):V×List aM->Prop:=λr =>
 eA L os keep k ({ S with aC:=r.2,bo:=(recv reg r.1).2++S.bo }.put d (recv reg r.1).1)
@[simp] theorem aFA{d:Option Nat} :
  TX L d reg S os keep k (r,G)=eA L os keep k ({ S with aC:=G,bo:=(recv reg r).2++S.bo }.put d (recv reg r).1):=rfl
def TY(L:bI)(d:Option Nat)(g:FuncId)(cap:List V)(reg:List (Nat×Nat))(S:St)(os:List cf)(keep:dG)(k:cT):List V->Prop:=λvs=>c8 (L g (vs++cap) S.aC) (TX L d reg S os keep k)
variable{cap:List V}
@[simp] theorem ao6{d:Option Nat}{g:FuncId} :
  TY L d g cap reg S os keep k vs=c8 (L g (vs++cap) S.aC) (TX L d reg S os keep k):=rfl
def TZ(L:bI)(d:Option Nat)(args:List (Sh×bG))(reg:List (Nat×Nat))(S:St)(os:List cf)(keep:dG)(k:cT):V->Prop:=λf=>match f with
 |.fn g cap=>c8 (oY S args) (TY L d g cap reg S os keep k)
 |_=>False
@[simp] theorem ao7{d:Option Nat}{g:FuncId} :
  TZ L d args reg S os keep k (.fn g cap)=c8 (oY S args) (TY L d g cap reg S os keep k):=rfl
@[simp high] theorem aFB{d:Option Nat}{f:bG} :
  eA L (⟨d,.call false f args reg,none⟩::os) keep k S=c8 (S.ev f) (TZ L d args reg S os keep k):=by
 rw[jU];simp only[cf.run,VO.run];rcases S.ev f with _|v
 .simp[c8]
 .simp only[wS]
  cases v with
  |fn g cap =>
   simp only[ao7];cases oY S args with
   |none=>simp[c8]
   |some vs =>
    simp only[wS,ao6];rcases L g (vs++cap) S.aC with _ | ⟨r,G⟩
    .simp[c8]
    .simp
  |_=>simp[c8,TZ]
def T3(L:bI)(d:Option Nat)(S:St)(os:List cf)(keep:dG)(k:cT):V×List aM->Prop:=λr =>
 r.2=S.aC/\eA L os keep k (S.put d (recv [] r.1).1)
@[simp] theorem ao8{d:Option Nat} :
  T3 L d S os keep k (r,G)=(G=S.aC/\eA L os keep k (S.put d (recv [] r).1)):=rfl
def T4(L:bI)(d:Option Nat)(g:FuncId)(cap:List V)(S:St)(os:List cf)(keep:dG)(k:cT):List V->Prop:=λvs=>c8 (L g (vs++cap) S.aC) (T3 L d S os keep k)
@[simp] theorem ao9{d:Option Nat}{g:FuncId} :
  T4 L d g cap S os keep k vs=c8 (L g (vs++cap) S.aC) (T3 L d S os keep k):=rfl
def T5(L:bI)(d:Option Nat)(args:List (Sh×bG))(S:St)(os:List cf)(keep:dG)(k:cT):V->Prop:=λf=>match f with
 |.fn g cap=>c8 (oY S args) (T4 L d g cap S os keep k)
 |_=>False
@[simp] theorem apa{d:Option Nat}{g:FuncId} :
  T5 L d args S os keep k (.fn g cap)=c8 (oY S args) (T4 L d g cap S os keep k):=rfl
@[simp high] theorem aFC{d:Option Nat}{f:bG} :
  eA L (⟨d,.um f args,none⟩::os) keep k S=c8 (S.ev f) (T5 L d args S os keep k):=by
 rw[jU];simp only[cf.run,VO.run];rcases S.ev f with _|v
 .simp[c8]
 .simp only[wS]
  cases v with
  |fn g cap =>
   simp only[apa];cases oY S args with
   |none=>simp[c8]
   |some vs =>
    simp only[wS,ao9];rcases L g (vs++cap) S.aC with _ | ⟨r,G⟩
    .simp[c8]
    .simp only[wS,ao8,rd]
     by_cases h:G=S.aC
     .simp[h]
     .simp[h,c8]
  |_=>simp[c8,T5]
def OD(L:bI)(d:Option Nat)(id:Nat)(S:St)(os:List cf)(keep:dG)(k:cT):V×Option (List V)->Prop:=λp=>match p.2 with
 |some cs=>eA L os keep k ({ S with aY:=(id,cs)::S.aY }.put d p.1)
 |none=>eA L os keep k (S.put d p.1)
@[simp] theorem aFD{d:Option Nat}{cs:List V} :
  OD L d id S os keep k (v,some cs)=eA L os keep k ({ S with aY:=(id,cs)::S.aY }.put d v):=rfl
@[simp] theorem aFE{d:Option Nat} :
  OD L d id S os keep k (v,none)=eA L os keep k (S.put d v):=rfl
def T6(L:bI)(d:Option Nat)(id pos:Nat)(S:St)(os:List cf)(keep:dG)(k:cT):V×List aM->Prop:=λr=>c8 (lP id pos r.1) (OD L d id S os keep k)
variable{pos:Nat}
@[simp] theorem apb{d:Option Nat} :
  T6 L d id pos S os keep k (r,G)=c8 (lP id pos r) (OD L d id S os keep k):=rfl
def owA(L:bI)(d:Option Nat)(g:FuncId)(id pos:Nat)(S:St)(os:List cf)(keep:dG)(k:cT):List V->Prop:=λvs=>c8 (L g vs []) (T6 L d id pos S os keep k)
@[simp] theorem apc{d:Option Nat}{g:FuncId} :
  owA L d g id pos S os keep k vs=c8 (L g vs []) (T6 L d id pos S os keep k):=rfl
@[simp high] theorem aFF{d:Option Nat}{g:FuncId}{args:List (Sh×Sh×bG)} :
  eA L (⟨d,.own (.c (.fn g [])) args ids id pos,none⟩::os) keep k S=c8 (nm S ids args) (owA L d g id pos S os keep k):=by
 rw[jU];simp only[cf.run,VO.run,St.ev];cases nm S ids args with
 |none=>simp[c8]
 |some vs =>
  simp only[wS,apc];rcases L g vs []with _ | ⟨r,G⟩
  .simp[c8]
  .simp only[wS,apb]
   rcases lP id pos r with _ | ⟨v,_|cs⟩
   .simp[c8]
   .simp
   .simp
def Hy(L:bI)(d:Option Nat)(id:Nat)(S:St)(os:List cf)(keep:dG)(k:cT):V×Option (List V)->Prop:=λp=>match p with
 |(.bY i n ln,some cs)=>c8 (bif i==id&&Nat.blt 0 cs.length&&Nat.blt 0 ln&&cs.all V.sc then some ({ S with aC:=S.aC++[aM.cells cs] }.put d (.cO S.aC.length n ln)) else none) (eA L os keep k)
 |(.er n,none)=>eA L os keep k ({ S with aC:=S.aC++[aM.cells []] }.put d (.cO S.aC.length n 0))
 |_=>False
@[simp] theorem aFG{d:Option Nat}{ln:Nat}{cs:List V} :
  Hy L d id S os keep k (.bY i n ln,some cs)=c8 (bif i==id&&Nat.blt 0 cs.length&&Nat.blt 0 ln&&cs.all V.sc then some ({ S with aC:=S.aC++[aM.cells cs] }.put d (.cO S.aC.length n ln)) else none) (eA L os keep k):=rfl
@[simp] theorem aFH{d:Option Nat} :
  Hy L d id S os keep k (.er n,none)=eA L os keep k ({ S with aC:=S.aC++[aM.cells []] }.put d (.cO S.aC.length n 0)):=rfl
def T7(L:bI)(d:Option Nat)(id:Nat)(S:St)(os:List cf)(keep:dG)(k:cT):V×List aM->Prop:=λr=>c8 (lP id 0 r.1) (Hy L d id S os keep k)
@[simp] theorem apd{d:Option Nat} :
  T7 L d id S os keep k (r,G)=c8 (lP id 0 r) (Hy L d id S os keep k):=rfl
def ogA(L:bI)(d:Option Nat)(g:FuncId)(id:Nat)(S:St)(os:List cf)(keep:dG)(k:cT):List V->Prop:=λvs=>c8 (L g vs []) (T7 L d id S os keep k)
@[simp] theorem ape{d:Option Nat}{g:FuncId} :
  ogA L d g id S os keep k vs=c8 (L g vs []) (T7 L d id S os keep k):=rfl
@[simp high] theorem aFI{d:Option Nat}{g:FuncId} :
  eA L (⟨d,.vv (.c (.fn g [])) args id,none⟩::os) keep k S=c8 (oZ S args) (ogA L d g id S os keep k):=by
 rw[jU];simp only[cf.run,VO.run,St.ev];cases oZ S args with
 |none=>simp[c8]
 |some vs =>
  simp only[wS,ape];rcases L g vs []with _ | ⟨r,G⟩
  .simp[c8]
  .simp only[wS,apd]
   rcases lP id 0 r with _ | ⟨v,o⟩
   .simp[c8]
   .rcases o with _|cs
    .cases v<;>simp[c8,Hy]
    .cases v<;>simp[c8,Hy]
     all_goals (split<;>simp_all)
def lY(w:Bool)(o:Option V)(A B:Prop):Prop:=match o with
 |some (.bool b)=>bif b==w then A else B
 |some .undef=>B
 |_=>False
@[simp] theorem aFJ:lY true (some (.bool b)) A B=xW (some (.bool b)) A B:=by cases b<;>simp[lY]
@[simp] theorem aFK:lY false (some (.bool b)) A B=xW (some (.bool b)) B A:=by cases b<;>simp[lY]
@[simp] theorem aFL:lY w (some .undef) A B=B:=rfl
@[simp] theorem aFM{x y:V}:lY w (some (mV b x y)) A B=xW (some (.bool b)) (lY w (some x) A B) (lY w (some y) A B):=by cases b<;>simp
@[simp high] theorem aFN{d:Option Nat}{al:Bool}{f:bG} :
  eA L (⟨d,.call al f args reg,some (g,w)⟩::os) keep k S=lY w (look g S.env) (eA L (⟨d,.call al f args reg,none⟩::os) keep k S) (eA L os keep k (S.put d .undef)):=by
 rw[jU,jU];simp only[cf.run];rcases look g S.env with _|v
 .simp[c8,lY]
 .cases v with
  |bool b=>simp only[lY];cases b==w<;>simp
  |undef=>simp[lY]
  |_=>simp[c8,lY]
@[simp high] theorem aFO{d:Option Nat}{f:bG} :
  eA L (⟨d,.um f args,some (g,w)⟩::os) keep k S=lY w (look g S.env) (eA L (⟨d,.um f args,none⟩::os) keep k S) (eA L os keep k (S.put d .undef)):=by
 rw[jU,jU];simp only[cf.run];rcases look g S.env with _|v
 .simp[c8,lY]
 .cases v with
  |bool b=>simp only[lY];cases b==w<;>simp
  |undef=>simp[lY]
  |_=>simp[c8,lY]
def apf{cs:List V}:recv reg (.agg cs)=(.agg (db reg 0 cs).1,(db reg 0 cs).2):=rfl
def apg{cs:List V}:recv reg (.tuple cs)=(.tuple (db reg 0 cs).1,(db reg 0 cs).2):=rfl
attribute [simp] apf apg
@[simp] theorem aFP :
  db reg i []=([],[]) /\
  recv reg (.map i)=(strip (.map i),[]):=by and_intros<;>rfl
@[simp] theorem aph{i:Nat}:∀{vs:List V},db [] i vs=(vs.map strip,[])
 |[]=>rfl
 |v::vs=>by
  simp only[db,aph (i:=i+1) (vs:=vs)];cases v with
  |slice t n es=>cases t<;>rfl
  |_=>rfl
def T8(o:Option Nat)(n:Nat)(es:List (List V))(r:List V×List (Nat×Nat)):List V×List (Nat×Nat):=match o with
 |some f=>(.slice (some f) n es::r.1,(f,es.length)::r.2)
 |none=>(.slice none n es::r.1,r.2)
@[simp] theorem aFQ{f:Nat}{r:List V×List (Nat×Nat)}:T8 (some f) n es r=(.slice (some f) n es::r.1,(f,es.length)::r.2):=rfl
@[simp] theorem aFR{r:List V×List (Nat×Nat)}:T8 none n es r=(.slice none n es::r.1,r.2):=rfl
@[simp] theorem aFS{t:Nat}:db reg i (.slice (some t) n es::vs)=T8 (look i reg) n es (db reg (i+1) vs):=by
 simp only[db];cases look i reg<;>rfl
variable{j:Nat}
@[simp] theorem aFT{us:List V}{k:IntKind}{n:Int}:db reg j ((.int k n)::us)=(strip (.int k n)::(db reg (j+1) us).1,(db reg (j+1) us).2):=rfl
@[simp] theorem aFU{k:IntKind}{n:Int}:recv reg (.int k n)=(strip (.int k n),[]):=rfl
@[simp] theorem aFV{us:List V}:db reg j ((.bool b)::us)=(strip (.bool b)::(db reg (j+1) us).1,(db reg (j+1) us).2):=rfl
@[simp] theorem aFW:recv reg (.bool b)=(strip (.bool b),[]):=rfl
@[simp] theorem aFX{us:List V}{s:List UInt8}:db reg j ((.str s)::us)=(strip (.str s)::(db reg (j+1) us).1,(db reg (j+1) us).2):=rfl
@[simp] theorem aFY{s:List UInt8}:recv reg (.str s)=(strip (.str s),[]):=rfl
@[simp] theorem aFZ{us:List V} :
  db reg j (.cj::us)=(strip .cj::(db reg (j+1) us).1,(db reg (j+1) us).2) /\
  db reg j (.ig::us)=(strip .ig::(db reg (j+1) us).1,(db reg (j+1) us).2) /\
  db reg j (.ij::us)=(strip .ij::(db reg (j+1) us).1,(db reg (j+1) us).2) /\
  db reg j (.ik::us)=(strip .ik::(db reg (j+1) us).1,(db reg (j+1) us).2) /\
  db reg j (.undef::us)=(strip .undef::(db reg (j+1) us).1,(db reg (j+1) us).2):=by and_intros<;>rfl
@[simp] theorem aF0 :
  recv reg .cj=(strip .cj,[]) /\
  recv reg .ig=(strip .ig,[]) /\
  recv reg .ij=(strip .ij,[]) /\
  recv reg .ik=(strip .ik,[]) /\
  recv reg .undef=(strip .undef,[]):=by and_intros<;>rfl
@[simp] theorem aF1{us:List V}:db reg j ((.slice none z es)::us)=(strip (.slice none z es)::(db reg (j+1) us).1,(db reg (j+1) us).2):=rfl
@[simp] theorem aF2:recv reg (.slice none z es)=(strip (.slice none z es),[]):=rfl
@[simp] theorem aF3{us:List V}{cs:List V}:db reg j ((.agg cs)::us)=(strip (.agg cs)::(db reg (j+1) us).1,(db reg (j+1) us).2):=rfl
@[simp] theorem aF4{us:List V}:db reg j ((.tuple vs)::us)=(strip (.tuple vs)::(db reg (j+1) us).1,(db reg (j+1) us).2):=rfl
@[simp] theorem aF5{us:List V}{r:List V}:db reg j ((.ff r o)::us)=(strip (.ff r o)::(db reg (j+1) us).1,(db reg (j+1) us).2):=rfl
@[simp] theorem aF6{r:List V}:recv reg (.ff r o)=(strip (.ff r o),[]):=rfl
@[simp] theorem aF7{us:List V} :
  db reg j ((.bn i o)::us)=(strip (.bn i o)::(db reg (j+1) us).1,(db reg (j+1) us).2) /\
  db reg j ((.bu i o)::us)=(strip (.bu i o)::(db reg (j+1) us).1,(db reg (j+1) us).2):=by and_intros<;>rfl
@[simp] theorem aF8 :
  recv reg (.bn i o)=(strip (.bn i o),[]) /\
  recv reg (.bu i o)=(strip (.bu i o),[]):=by and_intros<;>rfl
@[simp] theorem aF9{us:List V}{l:Nat}:db reg j ((.bY i o l)::us)=(strip (.bY i o l)::(db reg (j+1) us).1,(db reg (j+1) us).2):=rfl
@[simp] theorem aGa{l:Nat}:recv reg (.bY i o l)=(strip (.bY i o l),[]):=rfl
@[simp] theorem aGb{us:List V}{f:FuncId}:db reg j ((.fn f c)::us)=(strip (.fn f c)::(db reg (j+1) us).1,(db reg (j+1) us).2):=rfl
@[simp] theorem aGc{f:FuncId}:recv reg (.fn f c)=(strip (.fn f c),[]):=rfl
@[simp] theorem aGd{us:List V}:db reg j ((.map i)::us)=(strip (.map i)::(db reg (j+1) us).1,(db reg (j+1) us).2):=rfl
@[simp] theorem aGe{t:Nat}:recv reg (.slice (some t) n es)=match db reg 0 [.slice (some t) n es] with
  |([u],ts)=>(u,ts)
  |_=>(.undef,[]):=rfl
def KE{α:Type}(g:α->Int):∀l:List α,ju [none] (l.map λj=>[V.int .i64 (g j)])=some (l.map λj=>[V.int .i64 (g j)])
 |[]=>rfl
 |a::l=>by simp[ju,oV,el,KE g l]
def E1{sz:Nat}:∀(cs:List V) (off n:Nat),sz=1->off+n<=cs.length->chunks sz cs off n=((cs.drop off).take n).map λv=>[v]
 |cs,off,0,_,_=>by simp[chunks]
 |cs,off,n+1,h,hn=>by
  subst h;rw[chunks,E1 cs (off+1) n rfl (by omega),CG (show off<cs.length by omega)]
  simp only[R4,R5,nT]
@[simp] theorem aGf:ju [none] (chunks 1 (fj n f) 0 n)=some ((List.range n).map λj=>[V.int .i64 (f j)]):=by
 rw[E1 _ _ _ rfl (by simp)]
 rw[tA,ao2,fj,zB];exact KE f _
def abL:List.replicate n (V.int .i64 0)=fj n λ_=>0:=by
 rw[<-abH,rep]
@[simp] theorem aGg:(List.replicate n [V.int .i64 0]).flatten=fj n λ_=>0:=by
 rw[<-abH,rep];simp
variable{x y:Nat}
@[simp] theorem aGh :
  V.kF x y .undef=.undef /\
  V.kF x y .cj=.cj /\
  V.kF x y .ig=.ig /\
  V.kF x y .ij=.ij /\
  V.kF x y .ik=.ik:=by and_intros<;>rfl
@[simp] theorem aGi :
  V.forget x .undef=.undef /\
  V.forget x .cj=.cj /\
  V.forget x .ig=.ig /\
  V.forget x .ij=.ij /\
  V.forget x .ik=.ik:=by and_intros<;>rfl
@[simp] theorem aGj{k:IntKind}{n:Int}:V.kF x y (.int k n)=.int k n:=rfl
@[simp] theorem aGk{k:IntKind}{n:Int}:V.forget x (.int k n)=.int k n:=rfl
@[simp] theorem aGl:V.kF x y (.bool b)=.bool b:=rfl
@[simp] theorem aGm:V.forget x (.bool b)=.bool b:=rfl
@[simp] theorem aGn{s:List UInt8}:V.kF x y (.str s)=.str s:=rfl
@[simp] theorem aGo{s:List UInt8}:V.forget x (.str s)=.str s:=rfl
@[simp] theorem aGp:V.kF x y (.slice none z es)=.slice none z es:=rfl
@[simp] theorem aGq:V.forget x (.slice none z es)=.slice none z es:=rfl
@[simp] theorem aGr{t:Nat}:V.kF x y (.slice (some t) z es:V)=.slice (some t) z es:=rfl
@[simp] theorem aGs{t:Nat}:V.forget x (.slice (some t) z es:V)=bif t==x then .slice none z es else .slice (some t) z es:=rfl
@[simp] theorem aGt{cs:List V}:V.kF x y (.agg cs)=.agg cs:=rfl
@[simp] theorem aGu{cs:List V}:V.forget x (.agg cs)=.agg cs:=rfl
@[simp] theorem aGv:V.kF x y (.tuple vs)=.tuple vs:=rfl
@[simp] theorem aGw:V.forget x (.tuple vs)=.tuple vs:=rfl
@[simp] theorem aGx{r:List V}:V.kF x y (.ff r o)=.ff r o:=rfl
@[simp] theorem aGy{r:List V}:V.forget x (.ff r o)=.ff r o:=rfl
@[simp] theorem aGz :
  V.kF x y (.bn i o)=.bn i o /\
  V.kF x y (.bu i o)=.bu i o:=by and_intros<;>rfl
@[simp] theorem aGA :
  V.forget x (.bn i o)=.bn i o /\
  V.forget x (.bu i o)=.bu i o:=by and_intros<;>rfl
@[simp] theorem aGB{l:Nat}:V.kF x y (.bY i o l)=bif i==x then .bY y o l else .bY i o l:=rfl
@[simp] theorem aGC{l:Nat}:V.forget x (.bY i o l)=.bY i o l:=rfl
@[simp] theorem aGD{f:FuncId}:V.kF x y (.fn f c)=.fn f c:=rfl
@[simp] theorem aGE{f:FuncId}:V.forget x (.fn f c)=.fn f c:=rfl
@[simp] theorem aGF:V.kF x y (.map i)=.map i:=rfl
@[simp] theorem aGG:V.forget x (.map i)=.map i:=rfl
@[simp] theorem sn0 :
  V.cQ d (.cO i s n)=false /\
  V.dW d (.cO i s n)=false /\
  V.cI d (.cO i s n)=false:=by and_intros<;>rfl
@[simp] theorem sn1 :
  V.c5 (.cO i s n)=true /\
  V.plain (.cO i s n)=false /\
  V.jF (.cO i s n)=false /\
  V.jS (.cO i s n)=false /\
  V.lone (.cO i s n)=false /\
  V.cells (.cO i s n)=[.cO i s n] /\
  iY (.cO i s n)=.cO i s n /\
  strip (.cO i s n)=.cO i s n /\
  V.kq (.cO i s n)=.cO i s n /\
  V.ml (.cO i s n)=.cO i s n:=by and_intros<;>rfl
@[simp] theorem sn2:V.kF x y (.cO i s n)=.cO i s n:=rfl
@[simp] theorem sn3:V.forget x (.cO i s n)=.cO i s n:=rfl
@[simp] theorem sn4{us:List V}:db reg j ((.cO i s n)::us)=(strip (.cO i s n)::(db reg (j+1) us).1,(db reg (j+1) us).2):=rfl
@[simp] theorem sn5:recv reg (.cO i s n)=(strip (.cO i s n),[]):=rfl
@[simp] theorem sn6 :
  V.cQ d (.fQ i s o n)=(i==d) /\
  V.dW d (.fQ i s o n)=(i==d) /\
  V.cI d (.fQ i s o n)=(i==d):=by and_intros<;>rfl
@[simp] theorem sn7 :
  V.c5 (.fQ i s o n)=true /\
  V.plain (.fQ i s o n)=false /\
  V.jF (.fQ i s o n)=false /\
  V.jS (.fQ i s o n)=false /\
  V.lone (.fQ i s o n)=false /\
  V.cells (.fQ i s o n)=[.fQ i s o n] /\
  iY (.fQ i s o n)=.fQ i s o n /\
  strip (.fQ i s o n)=.fQ i s o n /\
  V.kq (.fQ i s o n)=.fQ i s o n /\
  V.ml (.fQ i s o n)=.fQ i s o n:=by and_intros<;>rfl
@[simp] theorem sn8:V.kF x y (.fQ i s o n)=.fQ i s o n:=rfl
@[simp] theorem sn9:V.forget x (.fQ i s o n)=.fQ i s o n:=rfl
@[simp] theorem aGR{us:List V}:db reg j ((.fQ i s o n)::us)=(strip (.fQ i s o n)::(db reg (j+1) us).1,(db reg (j+1) us).2):=rfl
@[simp] theorem aGS:recv reg (.fQ i s o n)=(strip (.fQ i s o n),[]):=rfl
@[simp] theorem aGT :
  V.cQ d (.jg i s o n)=false /\
  V.dW d (.jg i s o n)=false /\
  V.cI d (.jg i s o n)=false:=by and_intros<;>rfl
@[simp] theorem aGU :
  V.c5 (.jg i s o n)=true /\
  V.plain (.jg i s o n)=false /\
  V.jF (.jg i s o n)=false /\
  V.jS (.jg i s o n)=false /\
  V.lone (.jg i s o n)=false /\
  V.cells (.jg i s o n)=[.jg i s o n] /\
  iY (.jg i s o n)=.jg i s o n /\
  strip (.jg i s o n)=.jg i s o n /\
  V.kq (.jg i s o n)=.jg i s o n /\
  V.ml (.jg i s o n)=.jg i s o n:=by and_intros<;>rfl
@[simp] theorem aGV:V.kF x y (.jg i s o n)=.jg i s o n:=rfl
@[simp] theorem aGW:V.forget x (.jg i s o n)=.jg i s o n:=rfl
@[simp] theorem aGX:V.part (.cO i 1 n)=some (i,0,n):=rfl
@[simp] theorem aGY:V.part (.jg i 1 o n)=some (i,o,n):=rfl
@[simp] theorem aGZ:Jx G (some (i,o,n))=match G[i]? with
  |some (.cells cs)=>bif Nat.ble (o+n) cs.length&&Nat.blt 0 n then some (G.set i (.cells (jE cs o (List.replicate n (.int .i64 0))))) else none
  |_=>none:=rfl
def dM(l:List Int):List V:=l.map λn=>.int .i64 n
@[simp] theorem api:(dM l).length=l.length:=by simp[dM]
@[simp] theorem aG0{v:Int}:(dM l).set i (.int .i64 v)=dM (l.set i v):=by simp[dM]
def nG(h:i<l.length):(dM l)[i]?=some (.int .i64 (nth l i)):=by simp[dM,dQ h]
@[simp] theorem abM:(dM l).all (λv => !v.cQ d)=true:=by simp[dM,V.cQ]
@[simp] theorem abN:(l.map λn=>[V.int .i64 n]).flatten=dM l:=by
 induction l with
 |nil=>rfl
 |cons a l ih=>simp only[nT,vn,ih];rfl
@[simp] theorem OF(h:n=l.length):ju [none] (chunks 1 (dM l) 0 n)=some (l.map λn=>[V.int .i64 n]):=by
 subst h;rw[E1 _ _ _ rfl (by simp)]
 rw[tA,kD (by simp),dM,zB]
 exact KE (λn=>n) l
@[simp] theorem aG1{m:List Int}:dM l++dM m=dM (l++m):=by simp[dM]
@[simp] theorem aG2{a:Int}:dM l++[V.int .i64 a]=dM (l++[a]):=by simp[dM]
def kp{α:Type}(o:Option α)(s:Nat)(r:List (Nat×α)):List (Nat×α):=match o with
 |some v=>(s,v)::r
 |none=>r
@[simp] theorem aG3{v:α}{r:List (Nat×α)}:kp (some v) s r=(s,v)::r:=rfl
@[simp] theorem aG4{r:List (Nat×α)}:kp none s r=r:=rfl
@[simp low] theorem aG5{env:List (Nat×α)}{l:List Nat}:xD env (s::l)=kp (look s env) s (xD env l):=by
 simp only[xD];cases look s env<;>rfl
@[simp low] theorem aG6{env:List (Nat×α)}:xD env []=[]:=rfl
attribute [simp] Et oz St.take St.Ae qh cf.run VO.run St.ev sM St.put V.bin Jw St.keep yO yN CU CT pE sL wC el oV
 kE.fits St.pC loadAt St.fits jE oZ r9 oY CR V.un Nr St.lx uq xB r8 Ev St.pB iP.run St.rows St.jR St.Ns St.uo St.tD St.share St.yL St.CP St.CQ St.GI yM St.A8
@[simp] theorem apj{a b:Nat}:Nat.ble a b=decide (a<=b):=by
 by_cases h:a<=b
 .simp[h,Nat.ble_eq]
 .simp only[h,decide_false]
  exact MT.2 (λe=>h (js e))
@[simp] theorem aG7{a b:Nat}:Nat.blt a b=decide (a<b):=by
 rw[Nat.blt,apj];rfl
attribute [simp] Jl CI
def Hz{r:List aM}{a:aM}:(G++a::r)[G.length]?=some a:=by simp
def gl1{r:List aM}{a b:aM}:(G++a::b::r)[G.length+1]?=some b:=by
 rw[wy (by omega)];simp
def zj(S:St)(ids:List Nat)(rs sh:Sh):Option V->Option V
 |some (.bY id s n)=>S.Eu ids rs id s n
 |some (.fQ id s off n)=>S.CS ids rs id s off n
 |some v=>r9 sh v
 |none=>none
@[simp] theorem aG8:nm S ids []=some []:=rfl
variable{rs sh:Sh}
@[simp] theorem aG9{x:bG}{xs:List (Sh×Sh×bG)}:nm S ids ((rs,sh,x)::xs)=match zj S ids rs sh (S.ev x),nm S ids xs with
  |some u,some us=>some (u::us)
  |_,_=>none:=by
 simp only[nm];rcases S.ev x with _|v
 .rfl
 .cases v<;>rfl
@[simp] theorem aHa:zj S ids rs sh (some (.bY id s n))=bif ids.contains id then (match S.uo rs (.bY id s n) with|some es=>some (V.slice none rs.length es)|none=>none) else none:=rfl
@[simp] theorem aHb{f:FuncId}:zj S ids rs sh (some (.fn f c))=r9 sh (.fn f c):=rfl
@[simp] theorem aHc:zj S ids rs sh (some (.fQ id s off n))=bif ids.contains id then (match look id S.aY with
  |some cs=>bif (s==rs.length)&&Nat.blt 0 rs.length&&Nat.ble (off*rs.length+n*rs.length) cs.length then (match ju rs (chunks rs.length cs (off*rs.length) n) with|some es=>some (V.slice none rs.length es)|none=>none) else none
  |none=>none) else none:=rfl
@[simp] theorem aHd{k:IntKind}{n:Int}:zj S ids rs sh (some (.int k n))=r9 sh (.int k n):=rfl
@[simp] theorem aHe:zj S ids rs sh (some (.bool b))=r9 sh (.bool b):=rfl
@[simp] theorem aHf{s:List UInt8}:zj S ids rs sh (some (.str s))=r9 sh (.str s):=rfl
@[simp] theorem aHg:zj S ids rs sh (some .cj)=r9 sh .cj:=rfl
@[simp] theorem aHh:zj S ids rs sh (some (.slice t n es))=r9 sh (.slice t n es):=rfl
@[simp] theorem aHi:zj S ids rs sh (some (.er n))=r9 sh (.er n):=rfl
@[simp] theorem aHj{cs:List V}:zj S ids rs sh (some (.agg cs))=r9 sh (.agg cs):=rfl
def T9(L:bI)(d:Option Nat)(S:St)(os:List cf)(keep:dG)(k:cT):V×List aM->Prop:=λr=>r.1.tE=true/\eA L os keep k (S.put d r.1)
@[simp] theorem apk{d:Option Nat}:T9 L d S os keep k (r,G)=(r.tE=true/\eA L os keep k (S.put d r)):=rfl
def lcA(L:bI)(d:Option Nat)(g:FuncId)(S:St)(os:List cf)(keep:dG)(k:cT):List V->Prop:=λvs=>c8 (L g vs []) (T9 L d S os keep k)
@[simp] theorem apl{d:Option Nat}{g:FuncId}:lcA L d g S os keep k vs=c8 (L g vs []) (T9 L d S os keep k):=rfl
@[simp high] theorem aHk{d:Option Nat}{g:FuncId}{args:List (Sh×Sh×bG)} :
  eA L (⟨d,.vu (.c (.fn g [])) args ids,none⟩::os) keep k S=c8 (nm S ids args) (lcA L d g S os keep k):=by
 rw[jU];simp only[cf.run,VO.run,St.ev];cases nm S ids args with
 |none=>simp[c8]
 |some vs =>
  simp only[wS,apl];rcases L g vs []with _ | ⟨r,G⟩
  .simp[c8]
  .simp only[wS,apk]
   cases r.tE<;>simp[c8]
@[simp high] theorem aHl{d:Option Nat}{f:bG}{args:List (Sh×Sh×bG)} :
  eA L (⟨d,.vu f args ids,some (g,w)⟩::os) keep k S=lY w (look g S.env) (eA L (⟨d,.vu f args ids,none⟩::os) keep k S) (eA L os keep k (S.put d .undef)):=by
 rw[jU,jU];simp only[cf.run];rcases look g S.env with _|v
 .simp[c8,lY]
 .cases v with
  |bool b=>simp only[lY];cases b==w<;>simp
  |undef=>simp[lY]
  |_=>simp[c8,lY]
@[simp] theorem aHm{k:IntKind}{n:Int}:V.tE (.int k n)=true:=rfl
@[simp] theorem aHn:V.tE (.bool b)=true:=rfl
@[simp] theorem aHo{s:List UInt8}:V.tE (.str s)=true:=rfl
attribute [simp] V.tE V.sc
