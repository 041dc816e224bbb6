/- The value machine, 23: walking what sorts and compacts, and what a caller owns. -/
import Derived.Test.YtcelmhaoipbdiaaGreatDoorVmM
namespace Go.Vm
set_option linter.all false
def J4(S:St)(k id:Nat)(d:Option Nat)(n:Nat):Option (List V)→Option St
 |some cs=>bif Nat.ble n cs.length&&Nat.ble n lim&&Nat.blt 0 n then match wH (cs.take n) with
  |some zs=>some ({ S with aW:=(id,(ua k zs).map (V.int .i64)++cs.drop n)::S.aW }.put d (A7 k id zs))
  |none=>none
  else none
 |none=>none
@[simp] theorem au5{S:St}{k id:Nat}{d:Option Nat}{n:Nat}:St.mut S k id d (some (.bP id 1 n))=J4 S k id d n (look id S.aW):=by
 unfold St.mut J4;simp only;cases look id S.aW with
 |none=>rfl
 |some cs=>simp only[beq_self_eq_true,Bool.true_and];rfl
theorem Wa:∀zs:List Int,wH (dN zs)=some zs
 |[]=>rfl
 |z::zs=>by
  show(match wH (dN zs) with|some zs=>some (z::zs)|none=>none)=_
  rw[Wa zs]
@[simp] theorem J5{S:St}{k id:Nat}{d:Option Nat}{n:Nat}{zs:List Int}(h:n=zs.length)(hl:n≤4294967296)(h0:0<n):J4 S k id d n (some (dN zs))=some ({ S with aW:=(id,dN (ua k zs))::S.aW }.put d (A7 k id zs)):=by
 subst h;have h1:(dN zs).take zs.length=dN zs:=kG (by simp)
 have h2:(dN zs).drop zs.length=[]:=List.drop_of_length_le (by simp)
 have h3:Nat.ble zs.length lim=true:=Mu hl;have h4:Nat.blt 0 zs.length=true:=Mu h0;simp only[J4,h1,h2,Wa,EO,h3,h4];simp[dN]
@[simp] theorem au6{id:Nat}{zs:List Int}:A7 0 id zs=.tuple []:=rfl
@[simp] theorem au7{id:Nat}{zs:List Int}:A7 1 id zs=.bP id 1 (dedup zs).length:=rfl
theorem OT:∀{vs:List V},vs.all V.sc=true→vs.all V.jV=true∧vs.map strip=vs
 |[],_=>⟨rfl,rfl⟩
 |v::vs,h=>by
  simp only[EK,bQ]at h;obtain⟨a,b⟩:=OT h.2;have h1:v.jV=true∧strip v=v:=by cases v<;>simp_all[V.sc,V.jV,strip,gP]
  simp only[EK,bQ,nq,a,b,h1.1,h1.2,and_self]
theorem Wb{id t:Nat}{l:List Int}{vs:List V}(hv:vs.all V.sc=true)(hl:l≠[]):mV id 0 (.slice (some t) 1 (l.map fun n=>[V.int .i64 n])::vs)=some (.bP id 1 l.length::vs,some (dN l)):=by
 have h1:(l.map fun n=>[V.int .i64 n]).all (fun r=>r.length==1&&r.all V.sc)=true:=by
  simp[V.sc]
 have h2:(l.map fun n=>[V.int .i64 n]).isEmpty=false:=by cases l<;>simp at hl ⊢
 simp only[mV,h1,(OT hv).1,(OT hv).2,CE,bC,h2,eV,xr,Vt]
theorem agW{id t:Nat}{l:List Int}{e:Int}(hl:l≠[]):jW id 0 (.tuple [.slice (some t) 1 (l.map fun n=>[V.int .i64 n]),i64 e])=some (.tuple [.bP id 1 l.length,i64 e],some (dN l)):=by
 simp only[jW];rw[Wb (by rfl) hl]
theorem au8{id t n:Nat}{e:Int}:jW id 0 (.tuple [.slice (some t) n [],i64 e])=some (.tuple [.dX n,i64 e],none):=rfl
theorem Wc{t:Nat}{l:List Int}:V.jV (.slice (some t) 1 (l.map fun n=>[V.int .i64 n]))=true:=by simp[V.jV,V.sc]
theorem agX{id t u:Nat}{l m:List Int}(hl:l≠[]):jW id 0 (.tuple [.slice (some t) 1 (l.map fun n=>[V.int .i64 n]),.slice (some u) 1 (m.map fun n=>[V.int .i64 n])]) =
  some (.tuple [.bP id 1 l.length,.slice none 1 (m.map fun n=>[V.int .i64 n])],some (dN l)):=by
 have h1:(l.map fun n=>[V.int .i64 n]).all (fun r=>r.length==1&&r.all V.sc)=true:=by simp[V.sc]
 have h2:(l.map fun n=>[V.int .i64 n]).isEmpty=false:=by cases l<;>simp at hl ⊢
 simp only[jW,mV,h1,EK,Wc,List.all_nil,CE,bC,h2,eV,xr,Vt];rfl
theorem au9{id t u n:Nat}{m:List Int}:jW id 0 (.tuple [.slice (some t) n [],.slice (some u) 1 (m.map fun n=>[V.int .i64 n])]) =
  some (.tuple [.dX n,.slice none 1 (m.map fun n=>[V.int .i64 n])],none):=by
 simp only[jW,mV,List.all_nil,EK,Wc,CE,bC,List.isEmpty_nil];rfl
def J6(L:br)(keep:cX)(a:VC)(k:cB):cB:=fun e T=>match e with
 |.normal=>go L (.loop [] keep a) T k
 |.exit i=>k (.exit i) T
 |.ret=>k .ret T
@[simp] theorem ava{L:br}{keep:cX}{a:VC}{k:cB}{T:St}:J6 L keep a k .normal T=go L (.loop [] keep a) T k:=rfl
@[simp] theorem avb{L:br}{keep:cX}{a:VC}{k:cB}{T:St}{i:Nat}:J6 L keep a k (.exit i) T=k (.exit i) T:=rfl
@[simp] theorem avc{L:br}{keep:cX}{a:VC}{k:cB}{T:St}:J6 L keep a k .ret T=k .ret T:=rfl
theorem yu{L:br}{gh:List gI}{keep:cX}{a:VC}{S:St}{k:cB}:go L (.loop gh keep a) S k=cL (nA gh S) fun S=>go L a (S.keep keep) (J6 L keep a k):=by
 apply propext;constructor
 ·rintro⟨n,e,T,h,hk⟩
  simp only[VC.run]at h;cases hg:nA gh S with
  |none=>simp[hg]at h
  |some S1 =>
   rw[hg]at h;simp only at h;refine⟨S1,rfl,?_⟩;cases n with
   |zero=>simp[iter]at h
   |succ n =>
    simp only[iter]at h;cases hb:VC.run L (n+1) a (S1.keep keep) with
    |none=>rw[hb]at h;cases h
    |some y =>
     rw[hb]at h;obtain⟨e1,S2⟩:=y;refine⟨n+1,e1,S2,hb,?_⟩;cases e1 with
     |normal =>
      simp only at h;refine⟨n+1,e,T,?_,hk⟩;simp only[VC.run,nA];exact Gi (fun _ _ h=>h) (IF n) h
     |exit i=>cases h;exact hk
     |ret=>cases h;exact hk
 ·rintro⟨S1,hg,n,e1,S2,hb,hk⟩
  cases e1 with
  |normal =>
   obtain⟨m,e,T,h,hk⟩:=hk;simp only[VC.run,nA]at h;refine⟨n+m+1,e,T,?_,hk⟩;simp only[VC.run,hg,iter];rw[wZ (by omega) hb]
   exact Gi (fun _ _ h=>wZ (by omega) h) (by omega) h
  |exit i =>
   refine⟨n+1,_,_,?_,hk⟩;simp only[VC.run,hg,iter];rw[wZ (by omega) hb]
  |ret =>
   refine⟨n+1,_,_,?_,hk⟩;simp only[VC.run,hg,iter];rw[wZ (by omega) hb]
@[simp high] theorem avd{L:br}{d g m z:Nat}{x i:bp}{w:Bool}{os:List bA}{keep:cX}{k:cB}{S:St} :
  dU L (⟨some d,.nx (some m) z x i,some (g,w)⟩::os) keep k S=iQ w (look g S.env) (dU L (⟨some d,.nx (some m) z x i,none⟩::os) keep k S) (dU L os keep k (S.put (some d) .undef)):=by
 rw[ib,ib];simp only[bA.run];rcases look g S.env with _|v
 ·simp[cL,iQ]
 ·cases v with
  |bool b=>simp only[iQ];cases b==w<;>simp
  |undef=>simp[iQ]
  |_=>simp[cL,iQ]
abbrev z0:V:=.int .i64 0
abbrev zc(n:Int):bp:=.c (.int .i64 n)
abbrev zo(d:Nat)(o:VO):bA:=⟨some d,o,none⟩
abbrev zn(o:VO):bA:=⟨none,o,none⟩
abbrev zq(d g:Nat)(w:Bool)(o:VO):bA:=⟨some d,o,some (g,w)⟩
abbrev zm(d s:Nat):bA:=⟨some d,.mv (.t s),none⟩
abbrev zk(d s:Nat):bA:=⟨some d,.sY (.t s),none⟩
abbrev zf(d k s:Nat):bA:=⟨some d,.rM k (.t s),none⟩
abbrev zg(d s:Nat):bA:=⟨some d,.load .ay none (.t s),none⟩
abbrev zi(d s:Nat):bA:=⟨some d,.load .jJ none (.t s),none⟩
abbrev zj(d l s:Nat):bA:=⟨some d,.load (.loc l) none (.t s),none⟩
abbrev zs(d l n s:Nat):bA:=⟨some d,.load (.loc l) (some n) (.t s),none⟩
abbrev za(d n a b:Nat):bA:=⟨some d,.nx none n (.t a) (.t b),none⟩
abbrev ze(d a k:Nat):bA:=⟨some d,.ext (.t a) k,none⟩
abbrev zl(d a:Nat):bA:=⟨some d,.len (.t a),none⟩
abbrev zr(ops:List bA)(keep:cX):VC:=.region [] [] ops keep
abbrev zh(d:Nat)(n:Int):bA:=⟨some d,.mv (.c (.int .i64 n)),none⟩
abbrev zt(d:Nat)(b:Bool):bA:=⟨some d,.mv (.c (.bool b)),none⟩
abbrev zy(d:Nat):bA:=⟨some d,.mv (.c .b9),none⟩
abbrev zb(o:BinOp)(d a b:Nat):bA:=⟨some d,.bin o (.t a) (.t b),none⟩
abbrev zv(o:BinOp)(d a:Nat)(n:Int):bA:=⟨some d,.bin o (.t a) (.c (.int .i64 n)),none⟩
abbrev yb(o:BinOp)(d g:Nat)(w:Bool)(a b:Nat):bA:=⟨some d,.bin o (.t a) (.t b),some (g,w)⟩
abbrev yv(o:BinOp)(d g:Nat)(w:Bool)(a:Nat)(n:Int):bA:=⟨some d,.bin o (.t a) (.c (.int .i64 n)),some (g,w)⟩
abbrev ym(d g:Nat)(w:Bool)(s:Nat):bA:=⟨some d,.mv (.t s),some (g,w)⟩
abbrev yf(d g:Nat)(w:Bool)(k s:Nat):bA:=⟨some d,.rM k (.t s),some (g,w)⟩
abbrev yl(d g:Nat)(w:Bool)(a:Nat):bA:=⟨some d,.len (.t a),some (g,w)⟩
abbrev yi(d g:Nat)(w:Bool)(s:Nat):bA:=⟨some d,.load .jJ none (.t s),some (g,w)⟩
abbrev yj(d g:Nat)(w:Bool)(l s:Nat):bA:=⟨some d,.load (.loc l) none (.t s),some (g,w)⟩
abbrev ys(d g:Nat)(w:Bool)(l n s:Nat):bA:=⟨some d,.load (.loc l) (some n) (.t s),some (g,w)⟩
abbrev ya(d g:Nat)(w:Bool)(n a b:Nat):bA:=⟨some d,.nx none n (.t a) (.t b),some (g,w)⟩
abbrev zp(d a b:Nat)(c:Bool):bA:=⟨some d,.pick (.t a) (.t b) (.c (.bool c)),none⟩
abbrev yp(d a:Nat)(c:Bool)(b:Nat):bA:=⟨some d,.pick (.t a) (.c (.bool c)) (.t b),none⟩
abbrev a0(s:Nat):Sh×bp:=([none],.t s)
abbrev ac(n:Int):Sh×bp:=([none],.c (.int .i64 n))
abbrev ad(k s:Nat):Sh×bp:=([some k],.t s)
abbrev zw(d:Nat)(b:Bool)(f:FuncId)(l:List (Sh×bp)):bA:=⟨some d,.call b (.c (.fn f [])) l [],none⟩
abbrev yw(d g:Nat)(w b:Bool)(f:FuncId)(l:List (Sh×bp)):bA:=⟨some d,.call b (.c (.fn f [])) l [],some (g,w)⟩
abbrev zd(l:Nat)(sh:Sh)(p x:Nat):bA:=⟨none,.store (.loc l) sh (.t p) (.t x),none⟩
abbrev yg(d n s:Nat):bA:=⟨some d,.load .jJ (some n) (.t s),none⟩
abbrev zu(d x:Nat):bA:=⟨some d,.box d (.t x),none⟩
abbrev ye(d:Nat)(l:List V):bA:=⟨some d,.obj d l,none⟩
abbrev zz(ops:List bA)(keep:cX)(r:VC):VC:=.seq (.region [] [] ops keep) r
abbrev yz(ids:List Nat)(ops:List bA)(keep:cX)(r:VC):VC:=.seq (.region [] ids ops keep) r
abbrev yc(c:Nat)(a:VC):VC:=.cond (.t c) a .skip
abbrev zx(c i:Nat)(r:VC):VC:=.seq (.cond (.t c) .skip (.exit i)) r
end Go.Vm
