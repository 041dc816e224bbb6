/- - -/
import Derived.Test.YtabckmbjnjnegaaGreatDoorVmM
namespace Go.Vm
set_option linter.all false
def OP(S:St)(k id:Nat)(d:Option Nat)(n:Nat):Option (List V)->Option St
 |some cs=>bif Nat.ble n cs.length&&Nat.ble n lim&&Nat.blt 0 n then match Af (cs.take n) with
  |some zs=>some ({ S with aY:=(id,(xC k zs).map (V.int .i64)++cs.drop n)::S.aY }.put d (Ex k id zs))
  |none=>none
  else none
 |none=>none
variable{S:St}{id n:Nat}{d:Option Nat}
@[simp] theorem aHs{k:Nat}:St.mut S k id d (some (.bY id 1 n))=OP S k id d n (look id S.aY):=by
 unfold St.mut OP;simp only;cases look id S.aY with
 |none=>rfl
 |some cs=>simp only[beq_self_eq_true,Bool.true_and];rfl
def acA:∀zs:List Int,Af (dM zs)=some zs
 |[]=>rfl
 |z::zs=>by
  show(match Af (dM zs) with|some zs=>some (z::zs)|none=>none)=_
  rw[acA zs]
@[simp] theorem OQ{k:Nat}{zs:List Int}(h:n=zs.length)(hl:n<=4294967296)(h0:0<n):OP S k id d n (some (dM zs))=some ({ S with aY:=(id,dM (xC k zs))::S.aY }.put d (Ex k id zs)):=by
 subst h;have h1:(dM zs).take zs.length=dM zs:=kD (by simp)
 have h2:(dM zs).drop zs.length=[]:=Zk (by simp)
 have h3:Nat.ble zs.length lim=true:=R6 hl;have h4:Nat.blt 0 zs.length=true:=R6 h0;simp only[OP,h1,h2,acA,vl,h3,h4];simp[dM]
@[simp] theorem aHt{zs:List Int}:Ex 0 id zs=.tuple []:=rfl
@[simp] theorem aHu{zs:List Int}:Ex 1 id zs=.bY id 1 (dedup zs).length:=rfl
def UF:∀{vs:List V},vs.all V.sc=true->vs.all V.lO=true/\vs.map strip=vs
 |[],_=>⟨rfl,rfl⟩
 |v::vs,h=>by
  simp only[Jf,bZ]at h;obtain⟨a,b⟩:=UF h.2;have h1:v.lO=true/\strip v=v:=by cases v<;>simp_all[V.sc,V.lO,strip,iY]
  simp only[Jf,bZ,nT,a,b,h1.1,h1.2,and_self]
variable{t:Nat}{l:List Int}
def acB{vs:List V}(hv:vs.all V.sc=true)(hl:l≠[]):pD id 0 (.slice (some t) 1 (l.map λn=>[V.int .i64 n])::vs)=some (.bY id 1 l.length::vs,some (dM l)):=by
 have h1:(l.map λn=>[V.int .i64 n]).all (λr=>r.length==1&&r.all V.sc)=true:=by
  simp[V.sc]
 have h2:(l.map λn=>[V.int .i64 n]).isEmpty=false:=by cases l<;>simp at hl ⊢
 simp only[pD,h1,(UF hv).1,(UF hv).2,Ee,bW,h2,gL,yy,abN]
def apW{e:Int}(hl:l≠[]):lP id 0 (.tuple [.slice (some t) 1 (l.map λn=>[V.int .i64 n]),i64 e])=some (.tuple [.bY id 1 l.length,i64 e],some (dM l)):=by
 simp only[lP];rw[acB (by rfl) hl]
def acC:V.lO (.slice (some t) 1 (l.map λn=>[V.int .i64 n]))=true:=by simp[V.lO,V.sc]
def apX{u:Nat}{m:List Int}(hl:l≠[]):lP id 0 (.tuple [.slice (some t) 1 (l.map λn=>[V.int .i64 n]),.slice (some u) 1 (m.map λn=>[V.int .i64 n])]) =
  some (.tuple [.bY id 1 l.length,.slice none 1 (m.map λn=>[V.int .i64 n])],some (dM l)):=by
 have h1:(l.map λn=>[V.int .i64 n]).all (λr=>r.length==1&&r.all V.sc)=true:=by simp[V.sc]
 have h2:(l.map λn=>[V.int .i64 n]).isEmpty=false:=by cases l<;>simp at hl ⊢
 simp only[lP,pD,h1,Jf,acC,List.all_nil,Ee,bW,h2,gL,yy,abN];rfl
def OR(L:bI)(keep:dG)(a:VC)(k:cT):cT:=λe T=>match e with
 |.normal=>go L (.loop [] keep a) T k
 |.exit i=>k (.exit i) T
 |.ret=>k .ret T
variable{L:bI}{keep:dG}{a:VC}{k:cT}{T:St}
@[simp] theorem aHx:OR L keep a k .normal T=go L (.loop [] keep a) T k:=rfl
@[simp] theorem aHy{i:Nat}:OR L keep a k (.exit i) T=k (.exit i) T:=rfl
@[simp] theorem aHz:OR L keep a k .ret T=k .ret T:=rfl
def AB{gh:List iP}:go L (.loop gh keep a) S k=c8 (qh gh S) λS=>go L a (S.keep keep) (OR L keep a k):=by
 apply propext;constructor
 .rintro⟨n,e,T,h,hk⟩
  simp only[VC.run]at h;cases hg:qh gh S with
  |none=>simp[hg]at h
  |some S1 =>
   rw[hg]at h;simp only at h;refine⟨S1,rfl,?_⟩;cases n with
   |zero=>simp[iter]at h
   |succ n =>
    simp only[iter]at h;cases hb:VC.run L (n+1) a (S1.keep keep) with
    |none=>rw[hb]at h;cases h
    |some y =>
     rw[hb]at h;obtain⟨e1,S2⟩:=y;refine⟨n+1,e1,S2,hb,?_⟩;cases e1 with
     |normal =>
      simp only at h;refine⟨n+1,e,T,?_,hk⟩;simp only[VC.run,qh];exact Ky (λ_ _ h=>h) (Ng n) h
     |exit i=>cases h;exact hk
     |ret=>cases h;exact hk
 .rintro⟨S1,hg,n,e1,S2,hb,hk⟩
  cases e1 with
  |normal =>
   obtain⟨m,e,T,h,hk⟩:=hk;simp only[VC.run,qh]at h;refine⟨n+m+1,e,T,?_,hk⟩;simp only[VC.run,hg,iter];rw[Az (by omega) hb]
   exact Ky (λ_ _ h=>Az (by omega) h) (by omega) h
  |exit i =>
   refine⟨n+1,_,_,?_,hk⟩;simp only[VC.run,hg,iter];rw[Az (by omega) hb]
  |ret =>
   refine⟨n+1,_,_,?_,hk⟩;simp only[VC.run,hg,iter];rw[Az (by omega) hb]
@[simp high] theorem aHA{d g m z:Nat}{x i:bG}{w:Bool}{os:List cf} :
  eA L (⟨some d,.r7 (some m) z x i,some (g,w)⟩::os) keep k S=lY w (look g S.env) (eA L (⟨some d,.r7 (some m) z x i,none⟩::os) keep k S) (eA L os keep k (S.put (some d) .undef)):=by
 rw[jU,jU];simp only[cf.run];rcases look g S.env with _|v
 .simp[c8,lY]
 .cases v with
  |bool b=>simp only[lY];cases b==w<;>simp
  |undef=>simp[lY]
  |_=>simp[c8,lY]
abbrev z0:V:=.int .i64 0
abbrev zs(d l n s:Nat):cf:=⟨some d,.load (.loc l) (some n) (.t s),none⟩
abbrev zt(d:Nat)(b:Bool):cf:=⟨some d,.mv (.c (.bool b)),none⟩
abbrev zv(o:BinOp)(d a:Nat)(n:Int):cf:=⟨some d,.bin o (.t a) (.c (.int .i64 n)),none⟩
abbrev yb(o:BinOp)(d g:Nat)(w:Bool)(a b:Nat):cf:=⟨some d,.bin o (.t a) (.t b),some (g,w)⟩
abbrev yv(o:BinOp)(d g:Nat)(w:Bool)(a:Nat)(n:Int):cf:=⟨some d,.bin o (.t a) (.c (.int .i64 n)),some (g,w)⟩
abbrev yl(d g:Nat)(w:Bool)(a:Nat):cf:=⟨some d,.len (.t a),some (g,w)⟩
abbrev ys(d g:Nat)(w:Bool)(l n s:Nat):cf:=⟨some d,.load (.loc l) (some n) (.t s),some (g,w)⟩
abbrev a0(s:Nat):Sh×bG:=([none],.t s)
abbrev ad(k s:Nat):Sh×bG:=([some k],.t s)
abbrev zz(ops:List cf)(keep:dG)(r:VC):VC:=.seq (.region [] [] ops keep) r
