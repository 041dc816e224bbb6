/- The value machine, 23: walking what sorts and compacts, and what a caller owns. -/
import Derived.Test.YtcelmhaoipbdiaaGreatVmM
namespace Go.Vm
set_option linter.all false
def Ms(S:St)(k id:Nat)(d:Option Nat)(n:Nat):Option (List V)→Option St
 |some cs=>bif Nat.ble n cs.length&&Nat.ble n lim&&Nat.blt 0 n then match yh (cs.take n) with
  |some zs=>some ({ S with aZ:=(id,(vF k zs).map (V.int .i64)++cs.drop n)::S.aZ }.put d (C2 k id zs))
  |none=>none
  else none
 |none=>none
@[simp] theorem aB3{S:St}{k id:Nat}{d:Option Nat}{n:Nat}:St.mut S k id d (some (.bR id 1 n))=Ms S k id d n (look id S.aZ):=by
 unfold St.mut Ms;simp only;cases look id S.aZ with
 |none=>rfl
 |some cs=>simp only[beq_self_eq_true,Bool.true_and];rfl
theorem ZR:∀zs:List Int,yh (cP zs)=some zs
 |[]=>rfl
 |z::zs=>by
  show(match yh (cP zs) with|some zs=>some (z::zs)|none=>none)=_
  rw[ZR zs]
@[simp] theorem Mt{S:St}{k id:Nat}{d:Option Nat}{n:Nat}{zs:List Int}(h:n=zs.length)(hl:n≤4294967296)(h0:0<n):Ms S k id d n (some (cP zs))=some ({ S with aZ:=(id,cP (vF k zs))::S.aZ }.put d (C2 k id zs)):=by
 subst h;have h1:(cP zs).take zs.length=cP zs:=lZ (by simp)
 have h2:(cP zs).drop zs.length=[]:=List.drop_of_length_le (by simp)
 have h3:Nat.ble zs.length lim=true:=Py hl;have h4:Nat.blt 0 zs.length=true:=Py h0;simp only[Ms,h1,h2,ZR,Hh,h3,h4];simp[cP]
@[simp] theorem aB4{id:Nat}{zs:List Int}:C2 0 id zs=.tuple []:=rfl
@[simp] theorem aB5{id:Nat}{zs:List Int}:C2 1 id zs=.bR id 1 (dedup zs).length:=rfl
theorem R0:∀{vs:List V},vs.all V.sc=true→vs.all V.kB=true∧vs.map strip=vs
 |[],_=>⟨rfl,rfl⟩
 |v::vs,h=>by
  simp only[Hg,b8]at h;obtain⟨a,b⟩:=R0 h.2;have h1:v.kB=true∧strip v=v:=by cases v<;>simp_all[V.sc,V.kB,strip,iD]
  simp only[Hg,b8,oH,a,b,h1.1,h1.2,and_self]
theorem ZS{id t:Nat}{l:List Int}{vs:List V}(hv:vs.all V.sc=true)(hl:l≠[]):nZ id 0 (.slice (some t) 1 (l.map fun n=>[V.int .i64 n])::vs)=some (.bR id 1 l.length::vs,some (cP l)):=by
 have h1:(l.map fun n=>[V.int .i64 n]).all (fun r=>r.length==1&&r.all V.sc)=true:=by
  simp[V.sc]
 have h2:(l.map fun n=>[V.int .i64 n]).isEmpty=false:=by cases l<;>simp at hl ⊢
 simp only[nZ,h1,(R0 hv).1,(R0 hv).2,EF,bM,h2,fu,zJ,Y7]
theorem al8{id t:Nat}{l:List Int}{e:Int}(hl:l≠[]):kC id 0 (.tuple [.slice (some t) 1 (l.map fun n=>[V.int .i64 n]),i64 e])=some (.tuple [.bR id 1 l.length,i64 e],some (cP l)):=by
 simp only[kC];rw[ZS (by rfl) hl]
theorem aB6{id t n:Nat}{e:Int}:kC id 0 (.tuple [.slice (some t) n [],i64 e])=some (.tuple [.ea n,i64 e],none):=rfl
theorem ZT{t:Nat}{l:List Int}:V.kB (.slice (some t) 1 (l.map fun n=>[V.int .i64 n]))=true:=by simp[V.kB,V.sc]
theorem al9{id t u:Nat}{l m:List Int}(hl:l≠[]):kC id 0 (.tuple [.slice (some t) 1 (l.map fun n=>[V.int .i64 n]),.slice (some u) 1 (m.map fun n=>[V.int .i64 n])]) =
  some (.tuple [.bR id 1 l.length,.slice none 1 (m.map fun n=>[V.int .i64 n])],some (cP l)):=by
 have h1:(l.map fun n=>[V.int .i64 n]).all (fun r=>r.length==1&&r.all V.sc)=true:=by simp[V.sc]
 have h2:(l.map fun n=>[V.int .i64 n]).isEmpty=false:=by cases l<;>simp at hl ⊢
 simp only[kC,nZ,h1,Hg,ZT,List.all_nil,EF,bM,h2,fu,zJ,Y7];rfl
theorem aB7{id t u n:Nat}{m:List Int}:kC id 0 (.tuple [.slice (some t) n [],.slice (some u) 1 (m.map fun n=>[V.int .i64 n])]) =
  some (.tuple [.ea n,.slice none 1 (m.map fun n=>[V.int .i64 n])],none):=by
 simp only[kC,nZ,List.all_nil,Hg,ZT,EF,bM,List.isEmpty_nil];rfl
def Mu(L:bD)(keep:dj)(a:VC)(k:cH):cH:=fun e T=>match e with
 |.normal=>go L (.loop [] keep a) T k
 |.exit i=>k (.exit i) T
 |.ret=>k .ret T
@[simp] theorem aB8{L:bD}{keep:dj}{a:VC}{k:cH}{T:St}:Mu L keep a k .normal T=go L (.loop [] keep a) T k:=rfl
@[simp] theorem aB9{L:bD}{keep:dj}{a:VC}{k:cH}{T:St}{i:Nat}:Mu L keep a k (.exit i) T=k (.exit i) T:=rfl
@[simp] theorem aCa{L:bD}{keep:dj}{a:VC}{k:cH}{T:St}:Mu L keep a k .ret T=k .ret T:=rfl
theorem yJ{L:bD}{gh:List iv}{keep:dj}{a:VC}{S:St}{k:cH}:go L (.loop gh keep a) S k=cR (oM gh S) fun S=>go L a (S.keep keep) (Mu L keep a k):=by
 apply propext;constructor
 ·rintro⟨n,e,T,h,hk⟩
  simp only[VC.run]at h;cases hg:oM gh S with
  |none=>simp[hg]at h
  |some S1 =>
   rw[hg]at h;simp only at h;refine⟨S1,rfl,?_⟩;cases n with
   |zero=>simp[iter]at h
   |succ n =>
    simp only[iter]at h;cases hb:VC.run L (n+1) a (S1.keep keep) with
    |none=>rw[hb]at h;cases h
    |some y =>
     rw[hb]at h;obtain⟨e1,S2⟩:=y;refine⟨n+1,e1,S2,hb,?_⟩;cases e1 with
     |normal =>
      simp only at h;refine⟨n+1,e,T,?_,hk⟩;simp only[VC.run,oM];exact Ix (fun _ _ h=>h) (KV n) h
     |exit i=>cases h;exact hk
     |ret=>cases h;exact hk
 ·rintro⟨S1,hg,n,e1,S2,hb,hk⟩
  cases e1 with
  |normal =>
   obtain⟨m,e,T,h,hk⟩:=hk;simp only[VC.run,oM]at h;refine⟨n+m+1,e,T,?_,hk⟩;simp only[VC.run,hg,iter];rw[yI (by omega) hb]
   exact Ix (fun _ _ h=>yI (by omega) h) (by omega) h
  |exit i =>
   refine⟨n+1,_,_,?_,hk⟩;simp only[VC.run,hg,iter];rw[yI (by omega) hb]
  |ret =>
   refine⟨n+1,_,_,?_,hk⟩;simp only[VC.run,hg,iter];rw[yI (by omega) hb]
@[simp high] theorem aCb{L:bD}{d g m z:Nat}{x i:bA}{w:Bool}{os:List bK}{keep:dj}{k:cH}{S:St} :
  en L (⟨some d,.oJ (some m) z x i,some (g,w)⟩::os) keep k S=jG w (look g S.env) (en L (⟨some d,.oJ (some m) z x i,none⟩::os) keep k S) (en L os keep k (S.put (some d) .undef)):=by
 rw[iY,iY];simp only[bK.run];rcases look g S.env with _|v
 ·simp[cR,jG]
 ·cases v with
  |bool b=>simp only[jG];cases b==w<;>simp
  |undef=>simp[jG]
  |_=>simp[cR,jG]
abbrev z0:V:=.int .i64 0
abbrev zc(n:Int):bA:=.c (.int .i64 n)
abbrev zo(d:Nat)(o:VO):bK:=⟨some d,o,none⟩
abbrev zn(o:VO):bK:=⟨none,o,none⟩
abbrev zq(d g:Nat)(w:Bool)(o:VO):bK:=⟨some d,o,some (g,w)⟩
abbrev zm(d s:Nat):bK:=⟨some d,.mv (.t s),none⟩
abbrev zk(d s:Nat):bK:=⟨some d,.uz (.t s),none⟩
abbrev zf(d k s:Nat):bK:=⟨some d,.tA k (.t s),none⟩
abbrev zg(d s:Nat):bK:=⟨some d,.load .aD none (.t s),none⟩
abbrev zi(d s:Nat):bK:=⟨some d,.load .kN none (.t s),none⟩
abbrev zj(d l s:Nat):bK:=⟨some d,.load (.loc l) none (.t s),none⟩
abbrev zs(d l n s:Nat):bK:=⟨some d,.load (.loc l) (some n) (.t s),none⟩
abbrev za(d n a b:Nat):bK:=⟨some d,.oJ none n (.t a) (.t b),none⟩
abbrev ze(d a k:Nat):bK:=⟨some d,.ext (.t a) k,none⟩
abbrev zl(d a:Nat):bK:=⟨some d,.len (.t a),none⟩
abbrev zr(ops:List bK)(keep:dj):VC:=.region [] [] ops keep
abbrev zh(d:Nat)(n:Int):bK:=⟨some d,.mv (.c (.int .i64 n)),none⟩
abbrev zt(d:Nat)(b:Bool):bK:=⟨some d,.mv (.c (.bool b)),none⟩
abbrev zy(d:Nat):bK:=⟨some d,.mv (.c .bU),none⟩
abbrev zb(o:BinOp)(d a b:Nat):bK:=⟨some d,.bin o (.t a) (.t b),none⟩
abbrev zv(o:BinOp)(d a:Nat)(n:Int):bK:=⟨some d,.bin o (.t a) (.c (.int .i64 n)),none⟩
abbrev yb(o:BinOp)(d g:Nat)(w:Bool)(a b:Nat):bK:=⟨some d,.bin o (.t a) (.t b),some (g,w)⟩
abbrev yv(o:BinOp)(d g:Nat)(w:Bool)(a:Nat)(n:Int):bK:=⟨some d,.bin o (.t a) (.c (.int .i64 n)),some (g,w)⟩
abbrev ym(d g:Nat)(w:Bool)(s:Nat):bK:=⟨some d,.mv (.t s),some (g,w)⟩
abbrev yf(d g:Nat)(w:Bool)(k s:Nat):bK:=⟨some d,.tA k (.t s),some (g,w)⟩
abbrev yl(d g:Nat)(w:Bool)(a:Nat):bK:=⟨some d,.len (.t a),some (g,w)⟩
abbrev yi(d g:Nat)(w:Bool)(s:Nat):bK:=⟨some d,.load .kN none (.t s),some (g,w)⟩
abbrev yj(d g:Nat)(w:Bool)(l s:Nat):bK:=⟨some d,.load (.loc l) none (.t s),some (g,w)⟩
abbrev ys(d g:Nat)(w:Bool)(l n s:Nat):bK:=⟨some d,.load (.loc l) (some n) (.t s),some (g,w)⟩
abbrev ya(d g:Nat)(w:Bool)(n a b:Nat):bK:=⟨some d,.oJ none n (.t a) (.t b),some (g,w)⟩
abbrev zp(d a b:Nat)(c:Bool):bK:=⟨some d,.pick (.t a) (.t b) (.c (.bool c)),none⟩
abbrev yp(d a:Nat)(c:Bool)(b:Nat):bK:=⟨some d,.pick (.t a) (.c (.bool c)) (.t b),none⟩
abbrev a0(s:Nat):Sh×bA:=([none],.t s)
abbrev ac(n:Int):Sh×bA:=([none],.c (.int .i64 n))
abbrev ad(k s:Nat):Sh×bA:=([some k],.t s)
abbrev zw(d:Nat)(b:Bool)(f:FuncId)(l:List (Sh×bA)):bK:=⟨some d,.call b (.c (.fn f [])) l [],none⟩
abbrev yw(d g:Nat)(w b:Bool)(f:FuncId)(l:List (Sh×bA)):bK:=⟨some d,.call b (.c (.fn f [])) l [],some (g,w)⟩
abbrev zd(l:Nat)(sh:Sh)(p x:Nat):bK:=⟨none,.store (.loc l) sh (.t p) (.t x),none⟩
abbrev yg(d n s:Nat):bK:=⟨some d,.load .kN (some n) (.t s),none⟩
abbrev zu(d x:Nat):bK:=⟨some d,.box d (.t x),none⟩
abbrev ye(d:Nat)(l:List V):bK:=⟨some d,.obj d l,none⟩
abbrev zz(ops:List bK)(keep:dj)(r:VC):VC:=.seq (.region [] [] ops keep) r
abbrev yz(ids:List Nat)(ops:List bK)(keep:dj)(r:VC):VC:=.seq (.region [] ids ops keep) r
abbrev yc(c:Nat)(a:VC):VC:=.cond (.t c) a .skip
abbrev zx(c i:Nat)(r:VC):VC:=.seq (.cond (.t c) .skip (.exit i)) r
end Go.Vm
