/- The value machine, 22: weakest preconditions of the evaluator. -/
import Derived.Test.YtmpikpodpgnjhaaGreatVmI
namespace Go.Vm
set_option linter.all false
def c5{α:Type}(o:Option α)(P:α→Prop):Prop:=∃a,o=some a∧P a
@[congr] theorem akQ{α:Type}{o o':Option α}{P:α→Prop}(h:o=o'):c5 o P=c5 o' P:=by rw[h]
@[simp] theorem ry{α:Type}{a:α}{P:α→Prop}:c5 (some a) P=P a:=by simp[c5]
theorem akR{α:Type}{o:Option α}{a:α}{P:α→Prop}(h:o=some a)(hp:P a):c5 o P:=⟨a,h,hp⟩
def tz(o:Option V)(A B:Prop):Prop:=∃t,o=some (.bool t)∧(bif t then A else B)
@[congr] theorem akS{o o':Option V}{A B:Prop}(h:o=o'):tz o A B=tz o' A B:=by rw[h]
@[simp] theorem akT{A B:Prop}:tz (some (.bool true)) A B=A:=by simp[tz]
@[simp] theorem akU{A B:Prop}:tz (some (.bool false)) A B=B:=by simp[tz]
theorem b9{p:Prop}{dp:Decidable p}{A B:Prop}(ha:p→A)(hb:¬p→B):tz (some (.bool (decide p))) A B:=by
 by_cases h:p
 ·simpa [h] using ha h
 ·simpa [h] using hb h
theorem gO{t:Bool}{A B:Prop}(ha:t=true→A)(hb:t=false→B):tz (some (.bool t)) A B:=by
 cases t
 ·simpa using hb rfl
 ·simpa using ha rfl
abbrev cR:=nR→St→Prop
def go(L:bH)(c:VC)(S:St)(k:cR):Prop:=∃n e T,VC.run L n c S=some (e,T)∧k e T
@[congr] theorem go_congr{L:bH}{c:VC}{S S':St}{k:cR}(h:S=S'):go L c S k=go L c S' k:=by rw[h]
theorem uG{L:bH}{n m:Nat}(h:n≤m){c:VC}{S:St}{x:nR×St}(hr:VC.run L n c S=some x):VC.run L m c S=some x :=
 w8 (fun _ _ _ _ h=>h) h hr
theorem go.mono{L:bH}{c:VC}{S:St}{k k':cR}(h:go L c S k)(hk:∀e T,k e T→k' e T):go L c S k':=by
 obtain⟨n,e,T,h1,h2⟩:=h;exact⟨n,e,T,h1,hk _ _ h2⟩
def sq(L:bH)(b:VC)(k:cR):cR:=fun e T=>match e with
 |.normal=>go L b T k
 |.exit i=>k (.exit i) T
 |.ret=>k .ret T
@[simp] theorem akV{L:bH}{b:VC}{k:cR}{T:St}:sq L b k .normal T=go L b T k:=rfl
@[simp] theorem akW{L:bH}{b:VC}{k:cR}{i:Nat}{T:St}:sq L b k (.exit i) T=k (.exit i) T:=rfl
@[simp] theorem akX{L:bH}{b:VC}{k:cR}{T:St}:sq L b k .ret T=k .ret T:=rfl
def bk(id:Nat)(k:cR):cR:=fun e T=>match e with
 |.normal=>k .normal T
 |.exit i=>bif i==id then k .normal T else k (.exit i) T
 |.ret=>k .ret T
@[simp] theorem akY{id:Nat}{k:cR}{T:St}:bk id k .normal T=k .normal T:=rfl
def CZ(b:Bool)(k:cR)(i:Nat)(T:St):Prop:=bif b then k .normal T else k (.exit i) T
@[congr] theorem akZ{b b':Bool}{k:cR}{i:Nat}{T:St}(h:b=b'):CZ b k i T=CZ b' k i T:=by rw[h]
@[simp] theorem ak0{k:cR}{i:Nat}{T:St}:CZ true k i T=k .normal T:=rfl
@[simp] theorem ak1{k:cR}{i:Nat}{T:St}:CZ false k i T=k (.exit i) T:=rfl
@[simp] theorem ak2{id:Nat}{k:cR}{i:Nat}{T:St}:bk id k (.exit i) T=CZ (i==id) k i T:=rfl
@[simp] theorem ak3{id:Nat}{k:cR}{T:St}:bk id k .ret T=k .ret T:=rfl
def fw(L:bH)(os:List bP)(keep:dA)(k:cR):St→Prop:=fun S=>∃T,g5 L os S=some T∧k .normal (T.keep keep)
theorem lY{L:bH}{o:bP}{os:List bP}{keep:dA}{k:cR}{S:St}:fw L (o::os) keep k S=c5 (o.run L S) (fw L os keep k):=by
 unfold fw c5;simp only[g5];cases o.run L S<;>simp
def ly{α:Type}(c:Bool)(a b:α):α:=bif c then a else b
@[congr] theorem ak4{α:Type}{c c':Bool}{a a' b b':α}(hc:c=c')(ha:c'=true→a=a')(hb:c'=false→b=b'):ly c a b=ly c' a' b':=by
 subst hc;cases c
 ·exact hb rfl
 ·exact ha rfl
@[congr] theorem ak5{α:Type}{p q:Prop}{dp:Decidable p}[dq:Decidable q]{a a' b b':α}(hc:p=q)(ha:q→a=a')(hb:¬q→b=b'):@ly α (@decide p dp) a b=ly (decide q) a' b':=by
 subst hc;by_cases h:p
 ·simp[ly,h,ha h]
 ·simp[ly,h,hb h]
theorem eO{a b:Int}:(a==b)=decide (a=b):=by by_cases h:a=b<;>simp[h]
theorem eP{a b:Int}:(a != b) = !decide (a=b):=by by_cases h:a=b<;>simp[h]
theorem eQ{α:Type}{p:Prop}{dp:Decidable p}{a b:α}(h:p):(bif decide p then a else b)=a:=by simp[h]
@[simp] theorem ak6{k:Int}:decide (k≤(lim:Int))=decide (k≤4294967296):=rfl
@[simp] theorem ak7{k:Nat}:decide (k≤lim)=decide (k≤4294967296):=rfl
theorem eR{α:Type}{p q:Prop}{dp:Decidable p}{dq:Decidable q}{a b:α}(h:p∧q):(bif decide p&&decide q then a else b)=a:=by simp[h.1,h.2]
@[simp] theorem ak8{α:Type}{a b:α}:ly true a b=a:=rfl
@[simp] theorem ak9{α:Type}{a b:α}:ly false a b=b:=rfl
@[simp] theorem ala{α:Type}{c:Bool}{a b:α}:ly (!c) a b=ly c b a:=by cases c<;>rfl
@[simp] theorem alb{α:Type}{c:Bool}{a b:α}:ly c (some a) (some b)=some (ly c a b):=by cases c<;>rfl
@[simp] theorem alc{c a b:Bool}:ly c (V.bool a) (V.bool b)=V.bool (bif c then a else b):=by cases c<;>rfl
def nn(o:Option V)(w:Bool)(x:Option V):Option V :=
 match o with
 |some (.bool b)=>bif b==w then x else some .undef
 |some .undef=>some .undef
 |_=>none
@[simp] theorem ald{b:Bool}{x:Option V}:nn (some (.bool b)) true x=ly b x (some .undef):=by cases b<;>rfl
@[simp] theorem ale{b:Bool}{x:Option V}:nn (some (.bool b)) false x=ly b (some .undef) x:=by cases b<;>rfl
@[simp] theorem alf{w:Bool}{x:Option V}:nn (some .undef) w x=some .undef:=rfl
@[simp] theorem alg{c b w:Bool}{v:V}{x:Option V}:nn (some (ly c v (.bool b))) w x=ly c (nn (some v) w x) (nn (some (.bool b)) w x):=by cases c<;>rfl
def vz(t:Option V)(x y:Option V):Option V:=match t with
 |some (.bool b)=>ly b x y
 |_=>none
@[simp] theorem alh{b:Bool}{x y:Option V}:vz (some (.bool b)) x y=ly b x y:=rfl
def np(L:bH)(d:Nat)(S:St)(os:List bP)(keep:dA)(k:cR):V→Prop:=fun v=>fw L os keep k (S.put (some d) v)
@[simp] theorem ali{L:bH}{d:Nat}{S:St}{os:List bP}{keep:dA}{k:cR}{v:V}:np L d S os keep k v=fw L os keep k { S with env:=(d,v)::S.env }:=rfl
theorem tA{L:bH}{d g:Nat}{w:Bool}{op:VO}{x:Option V}{S:St}{os:List bP}{keep:dA}{k:cR}(aj:op.run L (some d) S=x.map (S.put (some d))) :
  c5 (bP.run L ⟨some d,op,some (g,w)⟩ S) (fw L os keep k)=c5 (nn (look g S.env) w x) (np L d S os keep k):=by
 unfold bP.run nn;simp only;cases look g S.env with
 |none=>simp[c5]
 |some v =>
  cases v with
  |bool b =>
   simp only[aj];cases b==w with
   |true=>cases x<;>simp[c5,np]
   |false=>simp[c5,np]
  |undef=>simp[c5,np]
  |_=>simp[c5]
@[simp high] theorem alj{L:bH}{d:Nat}{c a b:bD}{os:List bP}{keep:dA}{k:cR}{S:St} :
  fw L (⟨some d,.pick c a b,none⟩::os) keep k S=c5 (vz (S.ev c) (S.ev a) (S.ev b)) (np L d S os keep k):=by
 rw[lY];simp only[bP.run,VO.run];rcases S.ev c with _|v
 ·simp[c5,vz]
 ·cases v with
  |bool t =>
   cases t
   ·simp only[vz,ly,cond_false]
    cases S.ev b<;>simp[c5,np]
   ·simp only[vz,ly,cond_true]
    cases S.ev a<;>simp[c5,np]
  |_=>simp[c5,vz]
@[simp] theorem alk{L:bH}{d g:Nat}{w:Bool}{x:bD}{os:List bP}{keep:dA}{k:cR}{S:St} :
  fw L (⟨some d,.mv x,some (g,w)⟩::os) keep k S=c5 (nn (look g S.env) w (S.ev x)) (np L d S os keep k):=by
 rw[lY];refine tA ?_;simp only[VO.run]
 repeat' split
 all_goals (first|rfl|simp_all[St.put])
@[simp] theorem alm{L:bH}{d g:Nat}{w:Bool}{c a b:bD}{os:List bP}{keep:dA}{k:cR}{S:St} :
  fw L (⟨some d,.pick c a b,some (g,w)⟩::os) keep k S=c5 (nn (look g S.env) w (vz (S.ev c) (S.ev a) (S.ev b))) (np L d S os keep k):=by
 rw[lY];refine tA ?_;simp only[VO.run];rcases S.ev c with _|v
 ·rfl
 ·cases v with
  |bool t =>
   cases t
   ·simp only[vz,ly,cond_false]
    cases S.ev b<;>rfl
   ·simp only[vz,ly,cond_true]
    cases S.ev a<;>rfl
  |_=>rfl
@[simp] theorem aln{L:bH}{d g:Nat}{w:Bool}{z:List V}{ps:List (Nat×Nat×bD)}{os:List bP}{keep:dA}{k:cR}{S:St} :
  fw L (⟨some d,.build z ps,some (g,w)⟩::os) keep k S=c5 (nn (look g S.env) w (match pG S ps z with|some cs=>some (.agg cs)|none=>none)) (np L d S os keep k):=by
 rw[lY];refine tA ?_;simp only[VO.run]
 repeat' split
 all_goals (first|rfl|simp_all[St.put])
@[simp] theorem alo{L:bH}{d g:Nat}{w:Bool}{r:jr}{z:Option Nat}{p:bD}{os:List bP}{keep:dA}{k:cR}{S:St} :
  fw L (⟨some d,.load r z p,some (g,w)⟩::os) keep k S=c5 (nn (look g S.env) w (match S.ev p with|some v=>bif r.fits v then (match S.m6 v with|some (cs,off)=>(loadAt z cs off).map (zV r)|none=>none) else none|none=>none)) (np L d S os keep k):=by
 rw[lY];refine tA ?_;simp only[VO.run];rcases S.ev p with _|v
 ·rfl
 ·simp only
  cases r.fits v with
  |false=>rfl
  |true =>
   rcases S.m6 v with _ | ⟨cs,off⟩
   ·rfl
   ·simp only[cond_true]
    rcases loadAt z cs off with _|u<;>rfl
@[simp] theorem alp{L:bH}{d g:Nat}{w:Bool}{x:bD}{os:List bP}{keep:dA}{k:cR}{S:St} :
  fw L (⟨some d,.qm x,some (g,w)⟩::os) keep k S=c5 (nn (look g S.env) w (match S.ev x with|some (.bJ i o)=>some (.bJ i o)|some (.bN i o)=>some (.bN i o)|some (.gz r o)=>some (.gz r o)|_=>none)) (np L d S os keep k):=by
 rw[lY];refine tA ?_;simp only[VO.run]
 repeat' split
 all_goals (first|rfl|simp_all[St.put])
@[simp] theorem alq{L:bH}{d g:Nat}{w:Bool}{o:BinOp}{x y:bD}{os:List bP}{keep:dA}{k:cR}{S:St} :
  fw L (⟨some d,.bin o x y,some (g,w)⟩::os) keep k S=c5 (nn (look g S.env) w (match S.ev x,S.ev y with|some a,some b=>V.bin o a b|_,_=>none)) (np L d S os keep k):=by
 rw[lY];refine tA ?_;simp only[VO.run]
 repeat' split
 all_goals (first|rfl|simp_all[St.put])
@[simp] theorem alr{L:bH}{d g:Nat}{w:Bool}{n:Bool}{ks:List Nat}{x y:bD}{os:List bP}{keep:dA}{k:cR}{S:St} :
  fw L (⟨some d,.gQ n ks x y,some (g,w)⟩::os) keep k S=c5 (nn (look g S.env) w (match S.ev x,S.ev y with|some a,some b=>V.gQ n ks a b|_,_=>none)) (np L d S os keep k):=by
 rw[lY];refine tA ?_;simp only[VO.run]
 repeat' split
 all_goals (first|rfl|simp_all[St.put])
@[simp] theorem als{L:bH}{d g:Nat}{w:Bool}{o:UnOp}{x:bD}{os:List bP}{keep:dA}{k:cR}{S:St} :
  fw L (⟨some d,.un o x,some (g,w)⟩::os) keep k S=c5 (nn (look g S.env) w (match S.ev x with|some a=>V.un o a|none=>none)) (np L d S os keep k):=by
 rw[lY];refine tA ?_;simp only[VO.run]
 repeat' split
 all_goals (first|rfl|simp_all[St.put])
@[simp] theorem alu{L:bH}{d g:Nat}{w:Bool}{n:Nat}{x:bD}{os:List bP}{keep:dA}{k:cR}{S:St} :
  fw L (⟨some d,.qW n x,some (g,w)⟩::os) keep k S=c5 (nn (look g S.env) w (match S.ev x with|some (.bJ i o)=>some (.bJ i (o+n))|some (.bN i o)=>some (.bN i (o+n))|some (.gz r o)=>some (.gz r (o+n))|_=>none)) (np L d S os keep k):=by
 rw[lY];refine tA ?_;simp only[VO.run]
 repeat' split
 all_goals (first|rfl|simp_all[St.put])
@[simp] theorem alv{L:bH}{d g:Nat}{w:Bool}{x:bD}{os:List bP}{keep:dA}{k:cR}{S:St} :
  fw L (⟨some d,.len x,some (g,w)⟩::os) keep k S=c5 (nn (look g S.env) w (match S.ev x with|some .aM=>some (.int .i64 0)|some (.eX _)=>some (.int .i64 0)|some (.iJ _)=>some (.int .i64 0)|some (.slice _ _ es)=>some (.int .i64 es.length)|some (.b0 _ _ n)=>some (.int .i64 n)|some (.dB _ _ n)=>some (.int .i64 n)|_=>none)) (np L d S os keep k):=by
 rw[lY];refine tA ?_;simp only[VO.run]
 repeat' split
 all_goals (first|rfl|simp_all[St.put])
@[simp] theorem alw{L:bH}{d g:Nat}{w:Bool}{n:Nat}{x i:bD}{os:List bP}{keep:dA}{k:cR}{S:St} :
  fw L (⟨some d,.eo none n x i,some (g,w)⟩::os) keep k S=c5 (nn (look g S.env) w (match S.ev x,S.ev i with
   |some (.slice _ m es),some (.int _ k)=>bif decide (0≤k)&&(m==n) then (match es[k.toNat]? with|some r=>some (.gz r 0)|none=>none) else none
   |some (.b0 id off ln),some (.int _ k)=>bif decide (0≤k)&&decide (k<ln)&&(off==n) then some (.bJ id (k.toNat*n)) else none
   |some (.dB id off ln),some (.int _ k)=>bif decide (0≤k)&&decide (k<ln)&&(off==n) then some (.bN id (k.toNat*n)) else none
   |_,_=>none)) (np L d S os keep k):=by
 rw[lY];refine tA ?_;simp only[VO.run];rcases S.ev x with _|v
 ·rfl
 ·rcases S.ev i with _|j
  ·cases v<;>rfl
  ·cases v with
   |slice t m es =>
    cases j with
    |int kk q =>
     simp only;cases (decide (0≤q)&&(m==n)) with
     |false=>rfl
     |true =>
      simp only[cond_true];rcases es[q.toNat]? with _|u<;>rfl
    |_=>rfl
   |b0 id off ln =>
    cases j with
    |int kk q =>
     simp only;cases (decide (0≤q)&&decide (q<ln)&&(off==n)) with
     |false=>rfl
     |true=>rfl
    |_=>rfl
   |dB id off ln =>
    cases j with
    |int kk q =>
     simp only;cases (decide (0≤q)&&decide (q<ln)&&(off==n)) with
     |false=>rfl
     |true=>rfl
    |_=>rfl
   |_=>cases j<;>rfl
def nth{α:Type}[Inhabited α](l:List α)(i:Nat):α:=l.getD i default
theorem bp{α:Type}[Inhabited α]{l:List α}{i:Nat}(h:i<l.length):l[i]?=some (nth l i):=by
 simp[nth,List.getD,h]
theorem ez{l:List Int}{i:Nat}(h:i<l.length):l[i]?=some (nth l i):=bp h
def lk{α:Type}(b:Bool)(v:α)(s:Nat)(r:List (Nat×α)):Option α:=bif b then some v else look s r
@[simp] theorem alx{α:Type}{s k:Nat}{v:α}{r:List (Nat×α)}:look s ((k,v)::r)=lk (k==s) v s r:=rfl
@[simp] theorem aly{α:Type}{s:Nat}:look s ([]:List (Nat×α))=none:=rfl
@[simp] theorem alz{α:Type}{s:Nat}{v:α}{r:List (Nat×α)}:lk true v s r=some v:=rfl
@[simp] theorem alA{α:Type}{s:Nat}{v:α}{r:List (Nat×α)}:lk false v s r=look s r:=rfl
def tB{α:Type}(d:Nat)(l:List (Nat×α)):List (Nat×α):=l.filter fun p => !(p.1==d)
def FK{α:Type}(b:Bool)(k:Nat)(v:α)(r:List (Nat×α)):List (Nat×α):=bif b then r else (k,v)::r
@[simp] theorem alB{α:Type}{k:Nat}{v:α}{r:List (Nat×α)}:FK true k v r=r:=rfl
@[simp] theorem alC{α:Type}{k:Nat}{v:α}{r:List (Nat×α)}:FK false k v r=(k,v)::r:=rfl
@[simp] theorem alD{α:Type}{d:Nat}:tB d ([]:List (Nat×α))=[]:=rfl
@[simp] theorem alE{α:Type}{d k:Nat}{v:α}{r:List (Nat×α)}:tB d ((k,v)::r)=FK (k==d) k v (tB d r):=by
 unfold tB FK;cases h:k==d<;>simp[List.filter,h]
@[simp] theorem alF{α:Type}{d:Nat}{l:List (Nat×α)}:(l.filter fun p => !(p.1==d))=tB d l:=rfl
@[simp] theorem alG{S:St}:S.clean []=some S:=rfl
@[simp] theorem alH{S:St}{d:Nat}{ds:List Nat}:S.clean (d::ds)=bif ((tB d S.env).all fun p => !p.2.cB d)&&((tB d S.bb).all fun p=>p.2.all fun v => !v.cQ d) then
  St.clean { env:=tB d S.env,bb:=tB d S.bb,bl:=tB d S.bl,az:=S.az } ds else none:=rfl
theorem C0{α β:Type}{a:α}{b:β}{k:α→β→Prop}:(∃e T,(a=e∧b=T)∧k e T)↔k a b :=
 ⟨fun⟨_,_,⟨h,h'⟩,hk⟩=>by subst h;subst h';exact hk,fun h=>⟨_,_,⟨rfl,rfl⟩,h⟩⟩
def Qg(L:bH)(ids:List Nat)(os:List bP)(keep:dA)(k:cR):St→Prop:=fun S=>c5 (S.clean ids) (fw L os keep k)
@[simp] theorem Y0{L:bH}{ids:List Nat}{os:List bP}{keep:dA}{k:cR}{S:St}:Qg L ids os keep k S=c5 (S.clean ids) (fw L os keep k):=rfl
@[simp] theorem alI{L:bH}{gh:List iL}{S:St}{k:cR}:go L (.uf gh) S k=c5 (mG gh S) (k .ret):=by
 refine propext ⟨?_,?_⟩
 ·rintro⟨n,e,T,h,hk⟩
  simp only[VC.run]at h;split at h
  ·rename_i S' h1;cases h;exact⟨_,h1,hk⟩
  ·cases h
 ·rintro⟨S',h1,hk⟩
  exact⟨0,_,_,by simp only[VC.run,h1],hk⟩
@[simp] theorem alJ{L:bH}{S:St}{k:cR}:go L .dead S k=False:=by simp[go,VC.run,C0]
@[simp] theorem go_skip{L:bH}{S:St}{k:cR}:go L .skip S k=k .normal S:=by simp[go,VC.run,C0]
@[simp] theorem alK{L:bH}{S:St}{k:cR}{i:Nat}:go L (.exit i) S k=k (.exit i) S:=by simp[go,VC.run,C0]
@[simp] theorem go_ret{L:bH}{S:St}{k:cR}:go L .ret S k=k .ret S:=by simp[go,VC.run,C0]
@[simp] theorem go_region{L:bH}{gh:List iL}{ids:List Nat}{os:List bP}{keep:dA}{S:St}{k:cR} :
  go L (.region gh ids os keep) S k=c5 (mG gh S) (Qg L ids os keep k):=by
 unfold go c5;simp only[VC.run,Y0];cases mG gh S with
 |none=>simp
 |some S1 =>
  simp only[Option.some.injEq,exists_eq_left',c5];cases S1.clean ids with
  |none=>simp
  |some S2 =>
   simp only[Option.some.injEq,exists_eq_left',fw];cases g5 L os S2 with
   |none=>simp
   |some S3=>simp[C0]
@[simp] theorem alL{L:bH}{a b:VC}{S:St}{k:cR}:go L (.seq a b) S k=go L a S (sq L b k):=by
 refine propext ⟨?_,?_⟩
 ·rintro⟨n,e,T,h,hk⟩
  simp only[VC.run]at h;split at h
  ·rename_i S' h1;exact⟨n,_,_,h1,n,_,_,h,hk⟩
  ·rename_i i S' h1;cases h;exact⟨n,_,_,h1,hk⟩
  ·rename_i S' h1;cases h;exact⟨n,_,_,h1,hk⟩
  ·cases h
 ·rintro⟨n,e,T,h,hk⟩
  cases e with
  |normal =>
   obtain⟨m,e,T',h',hk⟩:=hk;refine⟨n+m,e,T',?_,hk⟩;simp only[VC.run,uG (Nat.le_add_right n m) h,uG (Nat.le_add_left m n) h']
  |exit i=>exact⟨n,_,_,by simp only[VC.run,h],hk⟩
  |ret=>exact⟨n,_,_,by simp only[VC.run,h],hk⟩
@[simp] theorem alM{L:bH}{c:bD}{a b:VC}{S:St}{k:cR}:go L (.cond c a b) S k=tz (S.ev c) (go L a S k) (go L b S k):=by
 refine propext ⟨?_,?_⟩
 ·rintro⟨n,e,T,h,hk⟩
  simp only[VC.run]at h;split at h
  ·rename_i t hc
   refine⟨t,hc,?_⟩;cases t with
   |true=>exact⟨n,e,T,h,hk⟩
   |false=>exact⟨n,e,T,h,hk⟩
  ·cases h
 ·rintro⟨t,hc,h⟩
  cases t with
  |true=>obtain⟨n,e,T,h,hk⟩:=h;exact⟨n,e,T,by simp only[VC.run,hc,cond_true];exact h,hk⟩
  |false=>obtain⟨n,e,T,h,hk⟩:=h;exact⟨n,e,T,by simp only[VC.run,hc,cond_false];exact h,hk⟩
@[simp] theorem alN{L:bH}{id:Nat}{a:VC}{S:St}{k:cR}:go L (.block id a) S k=go L a S (bk id k):=by
 refine propext ⟨?_,?_⟩
 ·rintro⟨n,e,T,h,hk⟩
  simp only[VC.run]at h;split at h
  ·rename_i S' h1;cases h;exact⟨n,_,_,h1,hk⟩
  ·rename_i i S' h1
   refine⟨n,_,_,h1,?_⟩;cases hi:i==id with
   |true=>simp only[hi,cond_true]at h;cases h;simp only[bk,hi,cond_true];exact hk
   |false=>simp only[hi,cond_false]at h;cases h;simp only[bk,hi,cond_false];exact hk
  ·rename_i S' h1;cases h;exact⟨n,_,_,h1,hk⟩
  ·cases h
 ·rintro⟨n,e,T,h,hk⟩
  cases e with
  |normal=>exact⟨n,_,_,by simp only[VC.run,h],hk⟩
  |exit i =>
   cases hi:i==id with
   |true=>simp only[bk,hi,cond_true]at hk;exact⟨n,_,_,by simp only[VC.run,h,hi,cond_true],hk⟩
   |false=>simp only[bk,hi,cond_false]at hk;exact⟨n,_,_,by simp only[VC.run,h,hi,cond_false],hk⟩
  |ret=>exact⟨n,_,_,by simp only[VC.run,h],hk⟩
def FL{α:Type}(keep:dA)(st:α→St)(I:α→Prop)(mu:α→Nat)(m:Nat)(k:cR):cR:=fun e T=>match e with
 |.normal=>∃y,T.keep keep=st y∧I y∧mu y<m
 |.exit i=>k (.exit i) T
 |.ret=>k .ret T
@[simp] theorem alO{α:Type}{keep:dA}{st:α→St}{I:α→Prop}{mu:α→Nat}{m:Nat}{k:cR}{T:St}{i:Nat}:FL keep st I mu m k (.exit i) T=k (.exit i) T:=rfl
@[simp] theorem alP{α:Type}{keep:dA}{st:α→St}{I:α→Prop}{mu:α→Nat}{m:Nat}{k:cR}{T:St}:FL keep st I mu m k .ret T=k .ret T:=rfl
theorem cc{α:Type}{keep:dA}{st:α→St}{I:α→Prop}{mu:α→Nat}{m:Nat}{k:cR}{T:St}(y:α)(h:T.keep keep=st y)(hi:I y)(hm:mu y<m):FL keep st I mu m k .normal T:=⟨y,h,hi,hm⟩
theorem go_loop{α:Type}{L:bH}{c:VC}{gh:List iL}{keep:dA}{a:VC}{k:cR}{S:St}(st:α→St)(I:α→Prop)(mu:α→Nat)(x:α)(hc:c=.loop gh keep a)(hS:c5 (mG gh S) fun S=>S.keep keep=st x)(hI:I x)
  (step:∀x,I x→go L a (st x) (FL keep st I mu (mu x) k)):go L c S k:=by
 subst hc;obtain⟨S1,hg,hS⟩:=hS
 suffices h:∀m x S,S.keep keep=st x→mu x<m→I x→∃n e T,iter (fun S=>VC.run L n a (S.keep keep)) n S=some (e,T)∧k e T by
  obtain⟨n,e,T,h1,h2⟩:=h (mu x+1) x S1 hS (by omega) hI
  exact⟨n,e,T,by simp only[VC.run,hg];exact h1,h2⟩
 intro m;induction m with
 |zero=>intro x S _ h;omega
 |succ m ih =>
  intro x S hS hm hI;obtain⟨n,e,T,h1,h2⟩:=step x hI;rw[←hS]at h1;cases e with
  |normal =>
   obtain⟨y,hT,hy,bF⟩:=h2;obtain⟨n',e,T,h3,h4⟩:=ih y T hT (by omega) hy
   refine⟨n+n'+1,e,T,?_,h4⟩;simp only[iter];rw[uG (by omega) h1]
   exact CS (fun S x h=>uG (by omega) h) (by omega) h3
  |exit i=>exact⟨n+1,_,_,by simp only[iter];rw[uG (by omega) h1],h2⟩
  |ret=>exact⟨n+1,_,_,by simp only[iter];rw[uG (by omega) h1],h2⟩
def iP(L:bH)(f:FuncId)(args:List V)(G:List aV)(Q:V→List aV→Prop):Prop:=∃r G',L f args G=some (r,G')∧Q r G'
def vA(rs:List qX)(Q:V→List aV→Prop):cR:=fun e T=>match e with
 |.normal=>c5 (s7 T rs) fun v=>Q v T.az
 |.ret=>c5 (s7 T rs) fun v=>Q v T.az
 |.exit _=>False
@[simp] theorem alQ{rs:List qX}{Q:V→List aV→Prop}{T:St}:vA rs Q .normal T=c5 (s7 T rs) fun v=>Q v T.az:=rfl
@[simp] theorem alR{rs:List qX}{Q:V→List aV→Prop}{T:St}:vA rs Q .ret T=c5 (s7 T rs) fun v=>Q v T.az:=rfl
theorem jl{F:FuncId→Option br}{f:FuncId}{vf:br}(hf:F f=some vf){args:List V}{G:List aV}{Q:V→List aV→Prop}(hl:(args.length==vf.nparams&&vf.defs.isEmpty&&vf.split.isNone)=true)
  (h:go (bo F) vf.body { env:=oA 0 args,bb:=[],bl:=[],az:=G } (vA vf.results Q)):iP (bo F) f args G Q:=by
 simp only[Bool.and_eq_true,List.isEmpty_iff,Option.isNone_iff_eq_none]at hl;obtain⟨⟨hl,hd⟩,hs⟩:=hl;obtain⟨n,e,T,h1,h2⟩:=h;cases e with
 |exit i=>exact h2.elim
 |normal =>
  obtain⟨v,h3,h4⟩:=h2;exact⟨v,T.az,P3 hf (n:=n) hd hs (by simp only[br.call,hl,cond_true,h1,h3]),h4⟩
 |ret =>
  obtain⟨v,h3,h4⟩:=h2;exact⟨v,T.az,P3 hf (n:=n) hd hs (by simp only[br.call,hl,cond_true,h1,h3]),h4⟩
theorem Y1{F:FuncId→Option br}{f:FuncId}{vf:br}(hf:F f=some vf){i off:Nat}{G:List aV}{Q:V→List aV→Prop}(hl:(1==vf.nparams && !vf.defs.isEmpty&&vf.split.isNone)=true)
  (h:go (bo F) vf.body { env:=oA 0 [.bN i off],bb:=[],bl:=[],az:=G } (vA vf.results fun _ G1=>∃G2,oB (bo F) [.bN i off] vf.defs.reverse G1=some G2∧Q (.tuple []) G2)):iP (bo F) f [.bN i off] G Q:=by
 simp only[Bool.and_eq_true,Bool.not_eq_true',List.isEmpty_eq_false_iff,Option.isNone_iff_eq_none]at hl;obtain⟨⟨hl,hd⟩,hs⟩:=hl;obtain⟨n,e,T,h1,h2⟩:=h;cases e with
 |exit i=>exact h2.elim
 |normal =>
  obtain⟨v,h3,G2,h4,h5⟩:=h2;exact⟨_,G2,P5 hf (n:=n) hd hs (r:=v) (by simp only[br.call,List.length_singleton,hl,cond_true,h1,h3]) h4,h5⟩
 |ret =>
  obtain⟨v,h3,G2,h4,h5⟩:=h2;exact⟨_,G2,P5 hf (n:=n) hd hs (r:=v) (by simp only[br.call,List.length_singleton,hl,cond_true,h1,h3]) h4,h5⟩
theorem cg{F:FuncId→Option br}{f:FuncId}{vf:br}(hf:F f=some vf){args:List V}{G G':List aV}{r:V}(hl:(args.length==vf.nparams&&vf.defs.isEmpty&&vf.split.isNone)=true)
  (h:go (bo F) vf.body { env:=oA 0 args,bb:=[],bl:=[],az:=G } (vA vf.results fun v G1=>v=r∧G1=G')):bo F f args G=some (r,G'):=by
 obtain⟨_,_,h1,rfl,rfl⟩:=jl hf hl h;exact h1
theorem JS{F:FuncId→Option br}{f:FuncId}{vf:br}(hf:F f=some vf){args:List V}{G G':List aV}{r:V}{p m:Nat}(hl:(args.length==vf.nparams&&vf.defs.isEmpty)=true)(hs:vf.split=some p)(hp:args[p]?=some (.slice none m []))
  (h:go (bo F) vf.body { env:=oA 0 (args.set p .aM),bb:=[],bl:=[],az:=G } (vA vf.results fun v G1=>v=r∧G1=G'))
  (h':go (bo F) vf.body { env:=oA 0 (args.set p (.iJ m)),bb:=[],bl:=[],az:=G } (vA vf.results fun v G1=>v=r∧G1=G')):bo F f args G=some (r,G'):=by
 simp only[Bool.and_eq_true,List.isEmpty_iff]at hl;obtain⟨hl,hd⟩:=hl;have key:∀u,go (bo F) vf.body { env:=oA 0 (args.set p u),bb:=[],bl:=[],az:=G } (vA vf.results fun v G1=>v=r∧G1=G')→∃n,vf.call (bo F) n (args.set p u) G=some (r,G'):=fun u h=>by
  obtain⟨n,e,T,h1,h2⟩:=h;have Qh:((args.set p u).length==vf.nparams)=true:=by rw[List.length_set];exact hl
  cases e with
  |exit i=>exact h2.elim
  |normal =>
   obtain⟨v,h3,rfl,rfl⟩:=h2;exact⟨n,by simp only[br.call,Qh,cond_true,h1,h3]⟩
  |ret =>
   obtain⟨v,h3,rfl,rfl⟩:=h2;exact⟨n,by simp only[br.call,Qh,cond_true,h1,h3]⟩
 obtain⟨n,h1⟩:=key _ h;obtain⟨k,h2⟩:=key _ h';exact YQ hf hd hs hp h1 h2
theorem JT{F:FuncId→Option br}{f:FuncId}{vf:br}(hf:F f=some vf){args:List V}{G G':List aV}{r:V}{p:Nat}(hl:(args.length==vf.nparams&&vf.defs.isEmpty)=true)(hs:vf.split=some p)(hp:∀m,args[p]?≠some (.slice none m []))
  (h:go (bo F) vf.body { env:=oA 0 args,bb:=[],bl:=[],az:=G } (vA vf.results fun v G1=>v=r∧G1=G')):bo F f args G=some (r,G'):=by
 simp only[Bool.and_eq_true,List.isEmpty_iff]at hl;obtain⟨hl,hd⟩:=hl;obtain⟨n,e,T,h1,h2⟩:=h;cases e with
 |exit i=>exact h2.elim
 |normal =>
  obtain⟨v,h3,rfl,rfl⟩:=h2;exact P4 hf (n:=n) hd hs hp (by simp only[br.call,hl,cond_true,h1,h3])
 |ret =>
  obtain⟨v,h3,rfl,rfl⟩:=h2;exact P4 hf (n:=n) hd hs hp (by simp only[br.call,hl,cond_true,h1,h3])
abbrev i64(n:Int):V:=.int .i64 n
theorem wrap64{n:Int}(h1:-9223372036854775808≤n)(h2:n≤9223372036854775807):IntKind.i64.wrap n=n:=by
 simp[IntKind.wrap,IntKind.bits,IntKind.signed];omega
def rep{α:Type}(n:Nat)(x:α):List α:=List.replicate n x
def gU(n:Nat)(f:Nat→Int):List V:=(List.range n).map fun j=>.int .i64 (f j)
@[simp] theorem alS{n:Nat}{f:Nat→Int}:(gU n f).length=n:=by simp[gU]
theorem JU{n:Nat}{f g:Nat→Int}(h:∀j,j<n→f j=g j):gU n f=gU n g:=by
 unfold gU;apply List.map_congr_left;intro j hj;rw[h j (by simpa using hj)]
theorem n0{n:Nat}{f:Nat→Int}{i:Nat}(h:i<n):(gU n f)[i]?=some (.int .i64 (f i)):=by simp[gU,h]
@[simp] theorem alT{n:Nat}{f:Nat→Int}{i:Nat}{v:Int}:(gU n f).set i (.int .i64 v)=gU n fun j=>if j=i then v else f j:=by
 apply List.ext_getElem?;intro k;by_cases hk:k<n
 ·by_cases h:i=k
  ·subst h
   rw[List.getElem?_set_self (by simpa using hk),n0 hk]
   simp
  ·rw[List.getElem?_set_ne h,n0 hk,n0 hk,if_neg (fun e=>h e.symm)]
 ·rw[List.getElem?_eq_none (by simp;omega),List.getElem?_eq_none (by simp;omega)]
@[simp] theorem Y2{n:Nat}{f:Nat→Int}:(gU n f).take n=gU n f:=List.take_of_length_le (by simp)
@[simp] theorem Y3{n:Nat}:rep n (V.int .i64 0)=gU n fun _=>0:=by
 simp[rep,gU,List.map_const']
@[simp] theorem sm0{d:Nat} :
  V.cQ d .undef=false ∧
  V.dX d .undef=false ∧
  V.cB d .undef=false ∧
  V.cQ d .aM=false ∧
  V.dX d .aM=false ∧
  V.cB d .aM=false ∧
  V.cQ d .iq=false ∧
  V.dX d .iq=false ∧
  V.cB d .iq=false ∧
  V.cQ d .hZ=false ∧
  V.dX d .hZ=false ∧
  V.cB d .hZ=false ∧
  V.cQ d .iu=false ∧
  V.dX d .iu=false ∧
  V.cB d .iu=false:=by and_intros<;>rfl
@[simp] theorem sm1  :
  V.cU .undef=false ∧
  V.cells .undef=[.undef] ∧
  V.plain .undef=false ∧
  V.ku .undef=false ∧
  V.ka .undef=false ∧
  V.lone .undef=false ∧
  jV .undef=.undef ∧
  strip .undef=.undef ∧
  V.cU .aM=true ∧
  V.cells .aM=[.aM] ∧
  V.plain .aM=true ∧
  V.ku .aM=true ∧
  V.ka .aM=true ∧
  V.lone .aM=true ∧
  jV .aM=.aM ∧
  strip .aM=.aM ∧
  V.cU .iq=true ∧
  V.cells .iq=[.iq] ∧
  V.plain .iq=false ∧
  V.ku .iq=false ∧
  V.ka .iq=false ∧
  V.lone .iq=false ∧
  jV .iq=.iq ∧
  strip .iq=.iq ∧
  V.cU .hZ=true ∧
  V.cells .hZ=[.hZ] ∧
  V.plain .hZ=false ∧
  V.ku .hZ=false ∧
  V.ka .hZ=false ∧
  V.lone .hZ=false ∧
  jV .hZ=.hZ ∧
  strip .hZ=.hZ ∧
  V.cU .iu=true ∧
  V.cells .iu=[.iu] ∧
  V.plain .iu=false ∧
  V.ku .iu=false ∧
  V.ka .iu=false ∧
  V.lone .iu=false ∧
  jV .iu=.iu ∧
  strip .iu=.iu ∧
  V.lh .aM=.aM ∧
  V.mE .aM=.aM ∧
  V.lh .iq=.iq ∧
  V.mE .iq=.iq ∧
  V.lh .hZ=.hZ ∧
  V.mE .hZ=.hZ ∧
  V.lh .iu=.iu ∧
  V.mE .iu=.iu:=by and_intros<;>rfl
@[simp] theorem sm2{k:IntKind}{n:Int}{d:Nat} :
  V.cQ d (.int k n)=false ∧
  V.dX d (.int k n)=false ∧
  V.cB d (.int k n)=false:=by and_intros<;>rfl
@[simp] theorem sm3{k:IntKind}{n:Int} :
  V.cU (.int k n)=true ∧
  V.cells (.int k n)=[.int k n] ∧
  V.plain (.int k n)=true ∧
  V.ku (.int k n)=true ∧
  V.ka (.int k n)=true ∧
  V.lone (.int k n)=true ∧
  jV (.int k n)=.int k n ∧
  strip (.int k n)=.int k n ∧
  V.lh (.int k n)=.int k n ∧
  V.mE (.int k n)=.int k n:=by and_intros<;>rfl
@[simp] theorem sm4{b:Bool}{d:Nat} :
  V.cQ d (.bool b)=false ∧
  V.dX d (.bool b)=false ∧
  V.cB d (.bool b)=false:=by and_intros<;>rfl
@[simp] theorem sm5{b:Bool} :
  V.cU (.bool b)=true ∧
  V.cells (.bool b)=[.bool b] ∧
  V.plain (.bool b)=true ∧
  V.ku (.bool b)=true ∧
  V.ka (.bool b)=true ∧
  V.lone (.bool b)=true ∧
  jV (.bool b)=.bool b ∧
  strip (.bool b)=.bool b ∧
  V.lh (.bool b)=.bool b ∧
  V.mE (.bool b)=.bool b:=by and_intros<;>rfl
@[simp] theorem sm8{z:Nat}{es:List (List V)}{d:Nat} :
  V.cQ d (.slice none z es)=false ∧
  V.dX d (.slice none z es)=false ∧
  V.cB d (.slice none z es)=false:=by and_intros<;>rfl
@[simp] theorem al1{t z:Nat}{es:List (List V)}{d:Nat} :
  V.cQ d (.slice (some t) z es:V)=(t==d) ∧
  V.dX d (.slice (some t) z es:V)=(t==d) ∧
  V.cB d (.slice (some t) z es:V)=(t==d):=by and_intros<;>rfl
@[simp] theorem al2{cs:List V}{d:Nat} :
  V.cQ d (.agg cs)=true ∧
  V.dX d (.agg cs)=cs.any (V.cQ d) ∧
  V.cB d (.agg cs)=cs.any (V.cQ d):=by and_intros<;>rfl
@[simp] theorem al3{cs:List V} :
  V.cU (.agg cs)=false ∧
  V.cells (.agg cs)=cs ∧
  V.plain (.agg cs)=false ∧
  V.ku (.agg cs)=false ∧
  V.ka (.agg cs)=cs.all V.ku ∧
  V.lone (.agg cs)=cs.all V.ku ∧
  jV (.agg cs)=.agg cs ∧
  strip (.agg cs)=.agg (cs.map jV) ∧
  V.mE (.agg cs)=.agg (cs.map V.lh):=by and_intros<;>rfl
@[simp] theorem al4{vs:List V} :
  V.cU (.tuple vs)=false ∧
  V.cells (.tuple vs)=[.tuple vs] ∧
  V.plain (.tuple vs)=false ∧
  V.ku (.tuple vs)=false ∧
  V.ka (.tuple vs)=false ∧
  V.lone (.tuple vs)=vs.all V.ka ∧
  jV (.tuple vs)=.tuple vs ∧
  strip (.tuple vs)=.tuple vs:=by and_intros<;>rfl
@[simp] theorem al5{i o:Nat}{d:Nat} :
  V.cQ d (.bJ i o)=(i==d) ∧
  V.dX d (.bJ i o)=(i==d) ∧
  V.cB d (.bJ i o)=(i==d) ∧
  V.cQ d (.bN i o)=false ∧
  V.dX d (.bN i o)=false ∧
  V.cB d (.bN i o)=false:=by and_intros<;>rfl
@[simp] theorem al6{i o:Nat} :
  V.cU (.bJ i o)=true ∧
  V.cells (.bJ i o)=[.bJ i o] ∧
  V.plain (.bJ i o)=false ∧
  V.ku (.bJ i o)=false ∧
  V.ka (.bJ i o)=false ∧
  V.lone (.bJ i o)=false ∧
  jV (.bJ i o)=.bJ i o ∧
  strip (.bJ i o)=.bJ i o ∧
  V.cU (.bN i o)=true ∧
  V.cells (.bN i o)=[.bN i o] ∧
  V.plain (.bN i o)=false ∧
  V.ku (.bN i o)=false ∧
  V.ka (.bN i o)=false ∧
  V.lone (.bN i o)=false ∧
  jV (.bN i o)=.bN i o ∧
  strip (.bN i o)=.bN i o ∧
  V.lh (.bN i o)=.bN i o ∧
  V.mE (.bN i o)=.bN i o:=by and_intros<;>rfl
@[simp] theorem al7{i o l:Nat}{d:Nat} :
  V.cQ d (.b0 i o l)=(i==d) ∧
  V.dX d (.b0 i o l)=(i==d) ∧
  V.cB d (.b0 i o l)=(i==d):=by and_intros<;>rfl
@[simp] theorem al8{i o l:Nat} :
  V.cU (.b0 i o l)=true ∧
  V.cells (.b0 i o l)=[.b0 i o l] ∧
  V.plain (.b0 i o l)=false ∧
  V.ku (.b0 i o l)=false ∧
  V.ka (.b0 i o l)=false ∧
  V.lone (.b0 i o l)=false ∧
  jV (.b0 i o l)=.b0 i o l ∧
  strip (.b0 i o l)=.b0 i o l ∧
  V.lh (.b0 i o l)=.b0 i o l ∧
  V.mE (.b0 i o l)=.b0 i o l:=by and_intros<;>rfl
@[simp] theorem al9{f:FuncId}{c:List V} :
  V.cU (.fn f c)=true ∧
  V.cells (.fn f c)=[.fn f c] ∧
  V.plain (.fn f c)=false ∧
  V.ku (.fn f c)=false ∧
  V.ka (.fn f c)=false ∧
  V.lone (.fn f c)=false ∧
  jV (.fn f c)=.fn f c ∧
  strip (.fn f c)=.fn f c ∧
  V.lh (.fn f c)=.fn f c ∧
  V.mE (.fn f c)=.fn f c:=by and_intros<;>rfl
@[simp] theorem ama{i:Nat} :
  V.cU (.map i)=true ∧
  V.cells (.map i)=[.map i] ∧
  V.plain (.map i)=false ∧
  V.ku (.map i)=false ∧
  V.ka (.map i)=false ∧
  V.lone (.map i)=false ∧
  jV (.map i)=.map i ∧
  strip (.map i)=.map i ∧
  V.lh (.map i)=.map i ∧
  V.mE (.map i)=.map i:=by and_intros<;>rfl
@[simp] theorem amb{n:Nat}{es:List (List V)} :
  V.cU (.fG n es)=true ∧
  V.cells (.fG n es)=[.fG n es] ∧
  V.plain (.fG n es)=false ∧
  V.ku (.fG n es)=false ∧
  V.ka (.fG n es)=false ∧
  V.lone (.fG n es)=false ∧
  jV (.fG n es)=.fG n es ∧
  strip (.fG n es)=.fG n es ∧
  V.lh (.fG n es)=.slice none n es ∧
  V.mE (.fG n es)=.slice none n es:=by and_intros<;>rfl
@[simp] theorem amc{t:Option Nat}{n:Nat}{es:List (List V)} :
  V.lh (.slice t n es)=.slice t n es ∧
  V.mE (.slice t n es)=.slice t n es:=by and_intros<;>rfl
@[simp] theorem amd{n:Nat}{d:Nat} :
  V.cQ d (.eX n)=false ∧
  V.dX d (.eX n)=false ∧
  V.cB d (.eX n)=false ∧
  V.cQ d (.iJ n)=false ∧
  V.dX d (.iJ n)=false ∧
  V.cB d (.iJ n)=false:=by and_intros<;>rfl
@[simp] theorem ame{t:Option Nat}{z:Nat}{es:List (List V)}:jV (.slice t z es:V)=.slice none z es:=by cases t<;>rfl
@[simp] theorem amf{t:Option Nat}{z:Nat}{es:List (List V)}:strip (.slice t z es:V)=.slice none z es:=by cases t<;>rfl
@[simp] theorem amg{t:Option Nat}{z:Nat}{es:List (List V)}:V.ku (.slice t z es:V)=true:=by cases t<;>rfl
@[simp] theorem amh{t:Option Nat}{z:Nat}{es:List (List V)}:V.ka (.slice t z es:V)=true:=by cases t<;>rfl
@[simp] theorem ami{t:Option Nat}{z:Nat}{es:List (List V)}:V.lone (.slice t z es:V)=true:=by cases t<;>rfl
@[simp] theorem amj{t:Option Nat}{z:Nat}{es:List (List V)}:V.cU (.slice t z es:V)=true:=by cases t<;>rfl
@[simp] theorem amk{t:Option Nat}{z:Nat}{es:List (List V)}:V.cells (.slice t z es:V)=[.slice t z es]:=by cases t<;>rfl
@[simp] theorem aml{v:V}:zV .jh v=v:=rfl
@[simp] theorem amm{i:Nat}{v:V}:zV (.loc i) v=v:=rfl
def JV(L:bH)(d:Option Nat)(reg:List (Nat×Nat))(S:St)(os:List bP)(keep:dA)(k:cR):V×List aV→Prop:=fun r =>
 r.1.lone=true∧fw L os keep k ({ S with bl:=(recv reg r.1).2++S.bl }.put d (recv reg r.1).1)
@[simp] theorem Y4{L:bH}{d:Option Nat}{reg:List (Nat×Nat)}{S:St}{os:List bP}{keep:dA}{k:cR}{r:V}{G:List aV} :
  JV L d reg S os keep k (r,G)=(r.lone=true∧fw L os keep k ({ S with bl:=(recv reg r).2++S.bl }.put d (recv reg r).1)):=rfl
def Qi(L:bH)(d:Option Nat)(g:FuncId)(reg:List (Nat×Nat))(S:St)(os:List bP)(keep:dA)(k:cR):List V→Prop:=fun vs=>c5 (L g vs []) (JV L d reg S os keep k)
@[simp] theorem Y5{L:bH}{d:Option Nat}{g:FuncId}{reg:List (Nat×Nat)}{S:St}{os:List bP}{keep:dA}{k:cR}{vs:List V} :
  Qi L d g reg S os keep k vs=c5 (L g vs []) (JV L d reg S os keep k):=rfl
@[simp high] theorem amn{L:bH}{d:Option Nat}{g:FuncId}{args:List (Sh×bD)}{reg:List (Nat×Nat)}{os:List bP}{keep:dA}{k:cR}{S:St} :
  fw L (⟨d,.call true (.c (.fn g [])) args reg,none⟩::os) keep k S=c5 (j9 S args) (Qi L d g reg S os keep k):=by
 rw[lY];simp only[bP.run,VO.run,St.ev];cases j9 S args with
 |none=>simp[c5]
 |some vs =>
  simp only[ry,Y5];rcases L g vs []with _ | ⟨r,G⟩
  ·simp[c5]
  ·simp only[ry,Y4]
   cases r.lone<;>simp[c5]
def JW(L:bH)(d:Option Nat)(reg:List (Nat×Nat))(S:St)(os:List bP)(keep:dA)(k:cR):V×List aV→Prop:=fun r =>
 fw L os keep k ({ S with az:=r.2,bl:=(recv reg r.1).2++S.bl }.put d (recv reg r.1).1)
@[simp] theorem amo{L:bH}{d:Option Nat}{reg:List (Nat×Nat)}{S:St}{os:List bP}{keep:dA}{k:cR}{r:V}{G:List aV} :
  JW L d reg S os keep k (r,G)=fw L os keep k ({ S with az:=G,bl:=(recv reg r).2++S.bl }.put d (recv reg r).1):=rfl
def JX(L:bH)(d:Option Nat)(g:FuncId)(cap:List V)(reg:List (Nat×Nat))(S:St)(os:List bP)(keep:dA)(k:cR):List V→Prop:=fun vs=>c5 (L g (vs++cap) S.az) (JW L d reg S os keep k)
@[simp] theorem Y6{L:bH}{d:Option Nat}{g:FuncId}{cap:List V}{reg:List (Nat×Nat)}{S:St}{os:List bP}{keep:dA}{k:cR}{vs:List V} :
  JX L d g cap reg S os keep k vs=c5 (L g (vs++cap) S.az) (JW L d reg S os keep k):=rfl
def JY(L:bH)(d:Option Nat)(args:List (Sh×bD))(reg:List (Nat×Nat))(S:St)(os:List bP)(keep:dA)(k:cR):V→Prop:=fun f=>match f with
 |.fn g cap=>c5 (lQ S args) (JX L d g cap reg S os keep k)
 |_=>False
@[simp] theorem Y7{L:bH}{d:Option Nat}{args:List (Sh×bD)}{reg:List (Nat×Nat)}{S:St}{os:List bP}{keep:dA}{k:cR}{g:FuncId}{cap:List V} :
  JY L d args reg S os keep k (.fn g cap)=c5 (lQ S args) (JX L d g cap reg S os keep k):=rfl
@[simp high] theorem amp{L:bH}{d:Option Nat}{f:bD}{args:List (Sh×bD)}{reg:List (Nat×Nat)}{os:List bP}{keep:dA}{k:cR}{S:St} :
  fw L (⟨d,.call false f args reg,none⟩::os) keep k S=c5 (S.ev f) (JY L d args reg S os keep k):=by
 rw[lY];simp only[bP.run,VO.run];rcases S.ev f with _|v
 ·simp[c5]
 ·simp only[ry]
  cases v with
  |fn g cap =>
   simp only[Y7];cases lQ S args with
   |none=>simp[c5]
   |some vs =>
    simp only[ry,Y6];rcases L g (vs++cap) S.az with _ | ⟨r,G⟩
    ·simp[c5]
    ·simp
  |_=>simp[c5,JY]
def JZ(L:bH)(d:Option Nat)(S:St)(os:List bP)(keep:dA)(k:cR):V×List aV→Prop:=fun r =>
 r.2=S.az∧fw L os keep k (S.put d (recv [] r.1).1)
@[simp] theorem Y8{L:bH}{d:Option Nat}{S:St}{os:List bP}{keep:dA}{k:cR}{r:V}{G:List aV} :
  JZ L d S os keep k (r,G)=(G=S.az∧fw L os keep k (S.put d (recv [] r).1)):=rfl
def J0(L:bH)(d:Option Nat)(g:FuncId)(cap:List V)(S:St)(os:List bP)(keep:dA)(k:cR):List V→Prop:=fun vs=>c5 (L g (vs++cap) S.az) (JZ L d S os keep k)
@[simp] theorem Y9{L:bH}{d:Option Nat}{g:FuncId}{cap:List V}{S:St}{os:List bP}{keep:dA}{k:cR}{vs:List V} :
  J0 L d g cap S os keep k vs=c5 (L g (vs++cap) S.az) (JZ L d S os keep k):=rfl
def J1(L:bH)(d:Option Nat)(args:List (Sh×bD))(S:St)(os:List bP)(keep:dA)(k:cR):V→Prop:=fun f=>match f with
 |.fn g cap=>c5 (lQ S args) (J0 L d g cap S os keep k)
 |_=>False
@[simp] theorem Za{L:bH}{d:Option Nat}{args:List (Sh×bD)}{S:St}{os:List bP}{keep:dA}{k:cR}{g:FuncId}{cap:List V} :
  J1 L d args S os keep k (.fn g cap)=c5 (lQ S args) (J0 L d g cap S os keep k):=rfl
@[simp high] theorem amq{L:bH}{d:Option Nat}{f:bD}{args:List (Sh×bD)}{os:List bP}{keep:dA}{k:cR}{S:St} :
  fw L (⟨d,.nP f args,none⟩::os) keep k S=c5 (S.ev f) (J1 L d args S os keep k):=by
 rw[lY];simp only[bP.run,VO.run];rcases S.ev f with _|v
 ·simp[c5]
 ·simp only[ry]
  cases v with
  |fn g cap =>
   simp only[Za];cases lQ S args with
   |none=>simp[c5]
   |some vs =>
    simp only[ry,Y9];rcases L g (vs++cap) S.az with _ | ⟨r,G⟩
    ·simp[c5]
    ·simp only[ry,Y8,rd]
     by_cases h:G=S.az
     ·simp[h]
     ·simp[h,c5]
  |_=>simp[c5,J1]
def FM(L:bH)(d:Option Nat)(id:Nat)(S:St)(os:List bP)(keep:dA)(k:cR):V×Option (List V)→Prop:=fun p=>match p.2 with
 |some cs=>fw L os keep k ({ S with bb:=(id,cs)::S.bb }.put d p.1)
 |none=>fw L os keep k (S.put d p.1)
@[simp] theorem amr{L:bH}{d:Option Nat}{id:Nat}{S:St}{os:List bP}{keep:dA}{k:cR}{v:V}{cs:List V} :
  FM L d id S os keep k (v,some cs)=fw L os keep k ({ S with bb:=(id,cs)::S.bb }.put d v):=rfl
@[simp] theorem ams{L:bH}{d:Option Nat}{id:Nat}{S:St}{os:List bP}{keep:dA}{k:cR}{v:V} :
  FM L d id S os keep k (v,none)=fw L os keep k (S.put d v):=rfl
def J2(L:bH)(d:Option Nat)(id pos:Nat)(S:St)(os:List bP)(keep:dA)(k:cR):V×List aV→Prop:=fun r=>c5 (ky id pos r.1) (FM L d id S os keep k)
@[simp] theorem Zb{L:bH}{d:Option Nat}{id pos:Nat}{S:St}{os:List bP}{keep:dA}{k:cR}{r:V}{G:List aV} :
  J2 L d id pos S os keep k (r,G)=c5 (ky id pos r) (FM L d id S os keep k):=rfl
def Qj(L:bH)(d:Option Nat)(g:FuncId)(id pos:Nat)(S:St)(os:List bP)(keep:dA)(k:cR):List V→Prop:=fun vs=>c5 (L g vs []) (J2 L d id pos S os keep k)
@[simp] theorem Zc{L:bH}{d:Option Nat}{g:FuncId}{id pos:Nat}{S:St}{os:List bP}{keep:dA}{k:cR}{vs:List V} :
  Qj L d g id pos S os keep k vs=c5 (L g vs []) (J2 L d id pos S os keep k):=rfl
@[simp high] theorem amt{L:bH}{d:Option Nat}{g:FuncId}{args:List (Sh×bD)}{id pos:Nat}{os:List bP}{keep:dA}{k:cR}{S:St} :
  fw L (⟨d,.own (.c (.fn g [])) args id pos,none⟩::os) keep k S=c5 (j9 S args) (Qj L d g id pos S os keep k):=by
 rw[lY];simp only[bP.run,VO.run,St.ev];cases j9 S args with
 |none=>simp[c5]
 |some vs =>
  simp only[ry,Zc];rcases L g vs []with _ | ⟨r,G⟩
  ·simp[c5]
  ·simp only[ry,Zb]
   rcases ky id pos r with _ | ⟨v,_|cs⟩
   ·simp[c5]
   ·simp
   ·simp
def AQ(L:bH)(d:Option Nat)(id:Nat)(S:St)(os:List bP)(keep:dA)(k:cR):V×Option (List V)→Prop:=fun p=>match p with
 |(.b0 i n ln,some cs)=>c5 (bif i==id&&Nat.blt 0 cs.length&&Nat.blt 0 ln&&cs.all V.sc then some ({ S with az:=S.az++[aV.cells cs] }.put d (.dB S.az.length n ln)) else none) (fw L os keep k)
 |(.eX n,none)=>fw L os keep k ({ S with az:=S.az++[aV.cells []] }.put d (.dB S.az.length n 0))
 |_=>False
@[simp] theorem amu{L:bH}{d:Option Nat}{id i n ln:Nat}{S:St}{os:List bP}{keep:dA}{k:cR}{cs:List V} :
  AQ L d id S os keep k (.b0 i n ln,some cs)=c5 (bif i==id&&Nat.blt 0 cs.length&&Nat.blt 0 ln&&cs.all V.sc then some ({ S with az:=S.az++[aV.cells cs] }.put d (.dB S.az.length n ln)) else none) (fw L os keep k):=rfl
@[simp] theorem amv{L:bH}{d:Option Nat}{id n:Nat}{S:St}{os:List bP}{keep:dA}{k:cR} :
  AQ L d id S os keep k (.eX n,none)=fw L os keep k ({ S with az:=S.az++[aV.cells []] }.put d (.dB S.az.length n 0)):=rfl
def J3(L:bH)(d:Option Nat)(id:Nat)(S:St)(os:List bP)(keep:dA)(k:cR):V×List aV→Prop:=fun r=>c5 (ky id 0 r.1) (AQ L d id S os keep k)
@[simp] theorem Zd{L:bH}{d:Option Nat}{id:Nat}{S:St}{os:List bP}{keep:dA}{k:cR}{r:V}{G:List aV} :
  J3 L d id S os keep k (r,G)=c5 (ky id 0 r) (AQ L d id S os keep k):=rfl
def Qk(L:bH)(d:Option Nat)(g:FuncId)(id:Nat)(S:St)(os:List bP)(keep:dA)(k:cR):List V→Prop:=fun vs=>c5 (L g vs []) (J3 L d id S os keep k)
@[simp] theorem Ze{L:bH}{d:Option Nat}{g:FuncId}{id:Nat}{S:St}{os:List bP}{keep:dA}{k:cR}{vs:List V} :
  Qk L d g id S os keep k vs=c5 (L g vs []) (J3 L d id S os keep k):=rfl
@[simp high] theorem amw{L:bH}{d:Option Nat}{g:FuncId}{args:List (Sh×bD)}{id:Nat}{os:List bP}{keep:dA}{k:cR}{S:St} :
  fw L (⟨d,.pE (.c (.fn g [])) args id,none⟩::os) keep k S=c5 (j9 S args) (Qk L d g id S os keep k):=by
 rw[lY];simp only[bP.run,VO.run,St.ev];cases j9 S args with
 |none=>simp[c5]
 |some vs =>
  simp only[ry,Ze];rcases L g vs []with _ | ⟨r,G⟩
  ·simp[c5]
  ·simp only[ry,Zd]
   rcases ky id 0 r with _ | ⟨v,o⟩
   ·simp[c5]
   ·rcases o with _|cs
    ·cases v<;>simp[c5,AQ]
    ·cases v<;>simp[c5,AQ]
     all_goals (split<;>simp_all)
def pW(w:Bool)(o:Option V)(A B:Prop):Prop:=match o with
 |some (.bool b)=>bif b==w then A else B
 |some .undef=>B
 |_=>False
@[simp] theorem amx{b:Bool}{A B:Prop}:pW true (some (.bool b)) A B=tz (some (.bool b)) A B:=by cases b<;>simp[pW]
@[simp] theorem amy{b:Bool}{A B:Prop}:pW false (some (.bool b)) A B=tz (some (.bool b)) B A:=by cases b<;>simp[pW]
@[simp] theorem amz{w:Bool}{A B:Prop}:pW w (some .undef) A B=B:=rfl
@[simp high] theorem amA{L:bH}{d:Option Nat}{al:Bool}{f:bD}{args:List (Sh×bD)}{reg:List (Nat×Nat)}{g:Nat}{w:Bool}{os:List bP}{keep:dA}{k:cR}{S:St} :
  fw L (⟨d,.call al f args reg,some (g,w)⟩::os) keep k S=pW w (look g S.env) (fw L (⟨d,.call al f args reg,none⟩::os) keep k S) (fw L os keep k (S.put d .undef)):=by
 rw[lY,lY];simp only[bP.run];rcases look g S.env with _|v
 ·simp[c5,pW]
 ·cases v with
  |bool b=>simp only[pW];cases b==w<;>simp
  |undef=>simp[pW]
  |_=>simp[c5,pW]
theorem Zf{reg:List (Nat×Nat)}{cs:List V}:recv reg (.agg cs)=(.agg (dn reg 0 cs).1,(dn reg 0 cs).2):=rfl
theorem Zg{reg:List (Nat×Nat)}{cs:List V}:recv reg (.tuple cs)=(.tuple (dn reg 0 cs).1,(dn reg 0 cs).2):=rfl
attribute [simp] Zf Zg
@[simp] theorem amB{reg:List (Nat×Nat)}{i:Nat} :
  dn reg i []=([],[]) ∧
  recv reg (.map i)=(strip (.map i),[]):=by and_intros<;>rfl
@[simp] theorem Zh{i:Nat}:∀{vs:List V},dn [] i vs=(vs.map strip,[])
 |[]=>rfl
 |v::vs=>by
  simp only[dn,Zh (i:=i+1) (vs:=vs)];cases v with
  |slice t n es=>cases t<;>rfl
  |_=>rfl
def J4(o:Option Nat)(n:Nat)(es:List (List V))(r:List V×List (Nat×Nat)):List V×List (Nat×Nat):=match o with
 |some f=>(.slice (some f) n es::r.1,(f,es.length)::r.2)
 |none=>(.slice none n es::r.1,r.2)
@[simp] theorem amC{f n:Nat}{es:List (List V)}{r:List V×List (Nat×Nat)}:J4 (some f) n es r=(.slice (some f) n es::r.1,(f,es.length)::r.2):=rfl
@[simp] theorem amD{n:Nat}{es:List (List V)}{r:List V×List (Nat×Nat)}:J4 none n es r=(.slice none n es::r.1,r.2):=rfl
@[simp] theorem amE{reg:List (Nat×Nat)}{i n t:Nat}{es:List (List V)}{vs:List V}:dn reg i (.slice (some t) n es::vs)=J4 (look i reg) n es (dn reg (i+1) vs):=by
 simp only[dn];cases look i reg<;>rfl
@[simp] theorem amF{reg:List (Nat×Nat)}{j:Nat}{us:List V}{k:IntKind}{n:Int}:dn reg j ((.int k n)::us)=(strip (.int k n)::(dn reg (j+1) us).1,(dn reg (j+1) us).2):=rfl
@[simp] theorem amG{reg:List (Nat×Nat)}{k:IntKind}{n:Int}:recv reg (.int k n)=(strip (.int k n),[]):=rfl
@[simp] theorem amH{reg:List (Nat×Nat)}{j:Nat}{us:List V}{b:Bool}:dn reg j ((.bool b)::us)=(strip (.bool b)::(dn reg (j+1) us).1,(dn reg (j+1) us).2):=rfl
@[simp] theorem amI{reg:List (Nat×Nat)}{b:Bool}:recv reg (.bool b)=(strip (.bool b),[]):=rfl
@[simp] theorem amJ{reg:List (Nat×Nat)}{j:Nat}{us:List V}{s:List UInt8}:dn reg j ((.str s)::us)=(strip (.str s)::(dn reg (j+1) us).1,(dn reg (j+1) us).2):=rfl
@[simp] theorem amK{reg:List (Nat×Nat)}{s:List UInt8}:recv reg (.str s)=(strip (.str s),[]):=rfl
@[simp] theorem amL{reg:List (Nat×Nat)}{j:Nat}{us:List V}{z:Nat}{es:List (List V)}:dn reg j ((.slice none z es)::us)=(strip (.slice none z es)::(dn reg (j+1) us).1,(dn reg (j+1) us).2):=rfl
@[simp] theorem amM{reg:List (Nat×Nat)}{z:Nat}{es:List (List V)}:recv reg (.slice none z es)=(strip (.slice none z es),[]):=rfl
@[simp] theorem amN{reg:List (Nat×Nat)}{j:Nat}{us:List V}{cs:List V}:dn reg j ((.agg cs)::us)=(strip (.agg cs)::(dn reg (j+1) us).1,(dn reg (j+1) us).2):=rfl
@[simp] theorem amO{reg:List (Nat×Nat)}{j:Nat}{us:List V}{vs:List V}:dn reg j ((.tuple vs)::us)=(strip (.tuple vs)::(dn reg (j+1) us).1,(dn reg (j+1) us).2):=rfl
@[simp] theorem amP{reg:List (Nat×Nat)}{j:Nat}{us:List V}{r:List V}{o:Nat}:dn reg j ((.gz r o)::us)=(strip (.gz r o)::(dn reg (j+1) us).1,(dn reg (j+1) us).2):=rfl
@[simp] theorem amQ{reg:List (Nat×Nat)}{r:List V}{o:Nat}:recv reg (.gz r o)=(strip (.gz r o),[]):=rfl
@[simp] theorem amR{reg:List (Nat×Nat)}{i o:Nat} :
  recv reg (.bJ i o)=(strip (.bJ i o),[]) ∧
  recv reg (.bN i o)=(strip (.bN i o),[]):=by and_intros<;>rfl
@[simp] theorem amS{reg:List (Nat×Nat)}{j:Nat}{us:List V}{i o l:Nat}:dn reg j ((.b0 i o l)::us)=(strip (.b0 i o l)::(dn reg (j+1) us).1,(dn reg (j+1) us).2):=rfl
@[simp] theorem amT{reg:List (Nat×Nat)}{i o l:Nat}:recv reg (.b0 i o l)=(strip (.b0 i o l),[]):=rfl
@[simp] theorem amU{reg:List (Nat×Nat)}{j:Nat}{us:List V}{f:FuncId}{c:List V}:dn reg j ((.fn f c)::us)=(strip (.fn f c)::(dn reg (j+1) us).1,(dn reg (j+1) us).2):=rfl
@[simp] theorem amV{reg:List (Nat×Nat)}{f:FuncId}{c:List V}:recv reg (.fn f c)=(strip (.fn f c),[]):=rfl
@[simp] theorem amW{reg:List (Nat×Nat)}{j:Nat}{us:List V}{i:Nat}:dn reg j ((.map i)::us)=(strip (.map i)::(dn reg (j+1) us).1,(dn reg (j+1) us).2):=rfl
@[simp] theorem amX{reg:List (Nat×Nat)}{n t:Nat}{es:List (List V)}:recv reg (.slice (some t) n es)=match dn reg 0 [.slice (some t) n es] with
  |([u],ts)=>(u,ts)
  |_=>(.undef,[]):=rfl
theorem FN{α:Type}(g:α→Int):∀l:List α,lj [none] (l.map fun j=>[V.int .i64 (g j)])=some (l.map fun j=>[V.int .i64 (g j)])
 |[]=>rfl
 |a::l=>by simp[lj,lN,el,FN g l]
theorem C1{sz:Nat}:∀(cs:List V) (off n:Nat),sz=1→off+n≤cs.length→chunks sz cs off n=((cs.drop off).take n).map fun v=>[v]
 |cs,off,0,_,_=>by simp[chunks]
 |cs,off,n+1,h,hn=>by
  subst h;rw[chunks,C1 cs (off+1) n rfl (by omega),List.drop_eq_getElem_cons (show off<cs.length by omega)]
  simp only[List.take_succ_cons,List.take_zero,List.map_cons]
@[simp] theorem amY{n:Nat}{f:Nat→Int}:lj [none] (chunks 1 (gU n f) 0 n)=some ((List.range n).map fun j=>[V.int .i64 (f j)]):=by
 rw[C1 _ _ _ rfl (by simp)]
 rw[List.drop_zero,Y2,gU,List.map_map];exact FN f _
theorem Qm{n:Nat}:List.replicate n (V.int .i64 0)=gU n fun _=>0:=by
 rw[←Y3,rep]
@[simp] theorem amZ{k:IntKind}{n:Int}{x y:Nat}:V.jH x y (.int k n)=.int k n:=rfl
@[simp] theorem am0{k:IntKind}{n:Int}{x:Nat}:V.forget x (.int k n)=.int k n:=rfl
@[simp] theorem am1{b:Bool}{x y:Nat}:V.jH x y (.bool b)=.bool b:=rfl
@[simp] theorem am2{b:Bool}{x:Nat}:V.forget x (.bool b)=.bool b:=rfl
@[simp] theorem am3{s:List UInt8}{x y:Nat}:V.jH x y (.str s)=.str s:=rfl
@[simp] theorem am4{s:List UInt8}{x:Nat}:V.forget x (.str s)=.str s:=rfl
@[simp] theorem am5{z:Nat}{es:List (List V)}{x y:Nat}:V.jH x y (.slice none z es)=.slice none z es:=rfl
@[simp] theorem am6{z:Nat}{es:List (List V)}{x:Nat}:V.forget x (.slice none z es)=.slice none z es:=rfl
@[simp] theorem am7{t z:Nat}{es:List (List V)}{x y:Nat}:V.jH x y (.slice (some t) z es:V)=.slice (some t) z es:=rfl
@[simp] theorem am8{t z:Nat}{es:List (List V)}{x:Nat}:V.forget x (.slice (some t) z es:V)=bif t==x then .slice none z es else .slice (some t) z es:=rfl
@[simp] theorem am9{cs:List V}{x y:Nat}:V.jH x y (.agg cs)=.agg cs:=rfl
@[simp] theorem ana{cs:List V}{x:Nat}:V.forget x (.agg cs)=.agg cs:=rfl
@[simp] theorem anb{vs:List V}{x y:Nat}:V.jH x y (.tuple vs)=.tuple vs:=rfl
@[simp] theorem anc{vs:List V}{x:Nat}:V.forget x (.tuple vs)=.tuple vs:=rfl
@[simp] theorem ane{r:List V}{o:Nat}{x y:Nat}:V.jH x y (.gz r o)=.gz r o:=rfl
@[simp] theorem anf{r:List V}{o:Nat}{x:Nat}:V.forget x (.gz r o)=.gz r o:=rfl
@[simp] theorem ang{i o:Nat}{x y:Nat} :
  V.jH x y (.bJ i o)=.bJ i o ∧
  V.jH x y (.bN i o)=.bN i o:=by and_intros<;>rfl
@[simp] theorem anh{i o l:Nat}{x y:Nat}:V.jH x y (.b0 i o l)=bif i==x then .b0 y o l else .b0 i o l:=rfl
@[simp] theorem ani{i o l:Nat}{x:Nat}:V.forget x (.b0 i o l)=.b0 i o l:=rfl
@[simp] theorem anj{f:FuncId}{c:List V}{x y:Nat}:V.jH x y (.fn f c)=.fn f c:=rfl
@[simp] theorem ank{f:FuncId}{c:List V}{x:Nat}:V.forget x (.fn f c)=.fn f c:=rfl
@[simp] theorem anl{i:Nat}{x y:Nat}:V.jH x y (.map i)=.map i:=rfl
@[simp] theorem anm{i:Nat}{x:Nat}:V.forget x (.map i)=.map i:=rfl
@[simp] theorem sn0{i s n:Nat}{d:Nat} :
  V.cQ d (.dB i s n)=false ∧
  V.dX d (.dB i s n)=false ∧
  V.cB d (.dB i s n)=false:=by and_intros<;>rfl
@[simp] theorem sn1{i s n:Nat} :
  V.cU (.dB i s n)=true ∧
  V.plain (.dB i s n)=false ∧
  V.ku (.dB i s n)=false ∧
  V.ka (.dB i s n)=false ∧
  V.lone (.dB i s n)=false ∧
  V.cells (.dB i s n)=[.dB i s n] ∧
  jV (.dB i s n)=.dB i s n ∧
  strip (.dB i s n)=.dB i s n ∧
  V.lh (.dB i s n)=.dB i s n ∧
  V.mE (.dB i s n)=.dB i s n:=by and_intros<;>rfl
@[simp] theorem sn2{i s n:Nat}{x y:Nat}:V.jH x y (.dB i s n)=.dB i s n:=rfl
@[simp] theorem sn3{i s n:Nat}{x:Nat}:V.forget x (.dB i s n)=.dB i s n:=rfl
@[simp] theorem sn4{reg:List (Nat×Nat)}{j:Nat}{us:List V}{i s n:Nat}:dn reg j ((.dB i s n)::us)=(strip (.dB i s n)::(dn reg (j+1) us).1,(dn reg (j+1) us).2):=rfl
@[simp] theorem sn5{reg:List (Nat×Nat)}{i s n:Nat}:recv reg (.dB i s n)=(strip (.dB i s n),[]):=rfl
@[simp] theorem sn8{i s o n:Nat}{x y:Nat}:V.jH x y (.ld i s o n)=.ld i s o n:=rfl
@[simp] theorem sn9{i s o n:Nat}{x:Nat}:V.forget x (.ld i s o n)=.ld i s o n:=rfl
@[simp] theorem anw{reg:List (Nat×Nat)}{j:Nat}{us:List V}{i s o n:Nat}:dn reg j ((.ld i s o n)::us)=(strip (.ld i s o n)::(dn reg (j+1) us).1,(dn reg (j+1) us).2):=rfl
@[simp] theorem anx{reg:List (Nat×Nat)}{i s o n:Nat}:recv reg (.ld i s o n)=(strip (.ld i s o n),[]):=rfl
def dR(l:List Int):List V:=l.map fun n=>.int .i64 n
@[simp] theorem Zi{l:List Int}:(dR l).length=l.length:=by simp[dR]
@[simp] theorem anz{l:List Int}{i:Nat}{v:Int}:(dR l).set i (.int .i64 v)=dR (l.set i v):=by simp[dR]
theorem kL{l:List Int}{i:Nat}(h:i<l.length):(dR l)[i]?=some (.int .i64 (nth l i)):=by simp[dR,ez h]
@[simp] theorem Zj{l:List Int}{d:Nat}:(dR l).all (fun v => !v.cQ d)=true:=by simp[dR,V.cQ]
@[simp] theorem Qn{l:List Int}:(l.map fun n=>[V.int .i64 n]).flatten=dR l:=by
 induction l with
 |nil=>rfl
 |cons a l ih=>simp only[List.map_cons,List.flatten_cons,ih];rfl
@[simp] theorem J5{l:List Int}{n:Nat}(h:n=l.length):lj [none] (chunks 1 (dR l) 0 n)=some (l.map fun n=>[V.int .i64 n]):=by
 subst h;rw[C1 _ _ _ rfl (by simp)]
 rw[List.drop_zero,List.take_of_length_le (by simp),dR,List.map_map]
 exact FN (fun n=>n) l
@[simp] theorem anA{l m:List Int}:dR l++dR m=dR (l++m):=by simp[dR]
@[simp] theorem anB{l:List Int}{a:Int}:dR l++[V.int .i64 a]=dR (l++[a]):=by simp[dR]
def kp{α:Type}(o:Option α)(s:Nat)(r:List (Nat×α)):List (Nat×α):=match o with
 |some v=>(s,v)::r
 |none=>r
@[simp] theorem anC{α:Type}{v:α}{s:Nat}{r:List (Nat×α)}:kp (some v) s r=(s,v)::r:=rfl
@[simp] theorem anD{α:Type}{s:Nat}{r:List (Nat×α)}:kp none s r=r:=rfl
@[simp low] theorem anE{α:Type}{env:List (Nat×α)}{s:Nat}{l:List Nat}:rV env (s::l)=kp (look s env) s (rV env l):=by
 simp only[rV];cases look s env<;>rfl
@[simp low] theorem anF{α:Type}{env:List (Nat×α)}:rV env []=[]:=rfl
attribute [simp] xF lg St.take St.ug mG bP.run VO.run St.ev oA St.put V.bin BU St.keep s7 s6 wD xJ nS pf qY el lN
 jr.fits St.m6 loadAt St.fits j8 j9 qZ lQ wC V.un EE St.kq pG rT nQ xG St.kr iL.run St.rows St.rS St.ov St.share St.zX sZ St.uZ
@[simp] theorem Zk{a b:Nat}:Nat.ble a b=decide (a≤b):=by
 by_cases h:a≤b
 ·simp[h,Nat.ble_eq]
 ·simp only[h,decide_false]
  exact Bool.eq_false_iff.2 (fun e=>h (Nat.le_of_ble_eq_true e))
@[simp] theorem anG{a b:Nat}:Nat.blt a b=decide (a<b):=by
 rw[Nat.blt,Zk];rfl
attribute [simp] List.getElem?_cons_zero List.getElem?_cons_succ
theorem AR{G r:List aV}{a:aV}:(G++a::r)[G.length]?=some a:=by simp
theorem Qo{G r:List aV}{a b:aV}:(G++a::b::r)[G.length+1]?=some b:=by
 rw[List.getElem?_append_right (by omega)];simp
def vB(S:St)(ids:List Nat)(rs sh:Sh):Option V→Option V
 |some (.b0 id s n)=>S.zW ids rs id s n
 |some v=>qZ sh v
 |none=>none
@[simp] theorem anH{S:St}{ids:List Nat}:ox S ids []=some []:=rfl
@[simp] theorem anI{S:St}{ids:List Nat}{rs sh:Sh}{x:bD}{xs:List (Sh×Sh×bD)}:ox S ids ((rs,sh,x)::xs)=match vB S ids rs sh (S.ev x),ox S ids xs with
  |some u,some us=>some (u::us)
  |_,_=>none:=by
 simp only[ox];rcases S.ev x with _|v
 ·rfl
 ·cases v<;>rfl
@[simp] theorem anJ{S:St}{ids:List Nat}{rs sh:Sh}{id s n:Nat}:vB S ids rs sh (some (.b0 id s n))=bif ids.contains id then (match S.rS rs (.b0 id s n) with|some es=>some (V.slice none rs.length es)|none=>none) else none:=rfl
@[simp] theorem anK{S:St}{ids:List Nat}{rs sh:Sh}{k:IntKind}{n:Int}:vB S ids rs sh (some (.int k n))=qZ sh (.int k n):=rfl
@[simp] theorem anL{S:St}{ids:List Nat}{rs sh:Sh}{b:Bool}:vB S ids rs sh (some (.bool b))=qZ sh (.bool b):=rfl
@[simp] theorem anM{S:St}{ids:List Nat}{rs sh:Sh}{s:List UInt8}:vB S ids rs sh (some (.str s))=qZ sh (.str s):=rfl
@[simp] theorem anN{S:St}{ids:List Nat}{rs sh:Sh}:vB S ids rs sh (some .aM)=qZ sh .aM:=rfl
@[simp] theorem anO{S:St}{ids:List Nat}{rs sh:Sh}{t:Option Nat}{n:Nat}{es:List (List V)}:vB S ids rs sh (some (.slice t n es))=qZ sh (.slice t n es):=rfl
@[simp] theorem anP{S:St}{ids:List Nat}{rs sh:Sh}{n:Nat}:vB S ids rs sh (some (.eX n))=qZ sh (.eX n):=rfl
@[simp] theorem anQ{S:St}{ids:List Nat}{rs sh:Sh}{cs:List V}:vB S ids rs sh (some (.agg cs))=qZ sh (.agg cs):=rfl
def J6(L:bH)(d:Option Nat)(S:St)(os:List bP)(keep:dA)(k:cR):V×List aV→Prop:=fun r=>r.1.oy=true∧fw L os keep k (S.put d r.1)
@[simp] theorem Zl{L:bH}{d:Option Nat}{S:St}{os:List bP}{keep:dA}{k:cR}{r:V}{G:List aV}:J6 L d S os keep k (r,G)=(r.oy=true∧fw L os keep k (S.put d r)):=rfl
def Qp(L:bH)(d:Option Nat)(g:FuncId)(S:St)(os:List bP)(keep:dA)(k:cR):List V→Prop:=fun vs=>c5 (L g vs []) (J6 L d S os keep k)
@[simp] theorem Zm{L:bH}{d:Option Nat}{g:FuncId}{S:St}{os:List bP}{keep:dA}{k:cR}{vs:List V}:Qp L d g S os keep k vs=c5 (L g vs []) (J6 L d S os keep k):=rfl
@[simp high] theorem anR{L:bH}{d:Option Nat}{g:FuncId}{args:List (Sh×Sh×bD)}{ids:List Nat}{os:List bP}{keep:dA}{k:cR}{S:St} :
  fw L (⟨d,.pd (.c (.fn g [])) args ids,none⟩::os) keep k S=c5 (ox S ids args) (Qp L d g S os keep k):=by
 rw[lY];simp only[bP.run,VO.run,St.ev];cases ox S ids args with
 |none=>simp[c5]
 |some vs =>
  simp only[ry,Zm];rcases L g vs []with _ | ⟨r,G⟩
  ·simp[c5]
  ·simp only[ry,Zl]
   cases r.oy<;>simp[c5]
@[simp high] theorem anS{L:bH}{d:Option Nat}{f:bD}{args:List (Sh×Sh×bD)}{ids:List Nat}{g:Nat}{w:Bool}{os:List bP}{keep:dA}{k:cR}{S:St} :
  fw L (⟨d,.pd f args ids,some (g,w)⟩::os) keep k S=pW w (look g S.env) (fw L (⟨d,.pd f args ids,none⟩::os) keep k S) (fw L os keep k (S.put d .undef)):=by
 rw[lY,lY];simp only[bP.run];rcases look g S.env with _|v
 ·simp[c5,pW]
 ·cases v with
  |bool b=>simp only[pW];cases b==w<;>simp
  |undef=>simp[pW]
  |_=>simp[c5,pW]
@[simp] theorem anT{k:IntKind}{n:Int}:V.oy (.int k n)=true:=rfl
@[simp] theorem anU{b:Bool}:V.oy (.bool b)=true:=rfl
@[simp] theorem anV{s:List UInt8}:V.oy (.str s)=true:=rfl
attribute [simp] V.oy V.sc
end Go.Vm
