/- The value machine, 23: walking what sorts and compacts, and what a caller owns. -/
import Derived.Test.YtmppfkgfnnebeaaGreatDoorVmM
namespace Go.Vm
set_option linter.all false
def LZ(S:St)(k id:Nat)(d:Option Nat)(n:Nat):Option (List V)→Option St
 |some cs=>bif Nat.ble n cs.length&&Nat.ble n lim&&Nat.blt 0 n then match yd (cs.take n) with
  |some zs=>some ({ S with aW:=(id,(vn k zs).map (V.int .i64)++cs.drop n)::S.aW }.put d (CC k id zs))
  |none=>none
  else none
 |none=>none
@[simp] theorem aAR{S:St}{k id:Nat}{d:Option Nat}{n:Nat}:St.mut S k id d (some (.bR id 1 n))=LZ S k id d n (look id S.aW):=by
 unfold St.mut LZ;simp only;cases look id S.aW with
 |none=>rfl
 |some cs=>simp only[beq_self_eq_true,Bool.true_and];rfl
theorem Y2:∀zs:List Int,yd (dD zs)=some zs
 |[]=>rfl
 |z::zs=>by
  show(match yd (dD zs) with|some zs=>some (z::zs)|none=>none)=_
  rw[Y2 zs]
@[simp] theorem L0{S:St}{k id:Nat}{d:Option Nat}{n:Nat}{zs:List Int}(h:n=zs.length)(hl:n≤4294967296)(h0:0<n):LZ S k id d n (some (dD zs))=some ({ S with aW:=(id,dD (vn k zs))::S.aW }.put d (CC k id zs)):=by
 subst h;have h1:(dD zs).take zs.length=dD zs:=mo (by simp)
 have h2:(dD zs).drop zs.length=[]:=VL (by simp)
 have h3:Nat.ble zs.length lim=true:=OI hl;have h4:Nat.blt 0 zs.length=true:=OI h0;simp only[LZ,h1,h2,Y2,Eb,h3,h4];simp[dD]
@[simp] theorem aAS{id:Nat}{zs:List Int}:CC 0 id zs=.tuple []:=rfl
@[simp] theorem aAT{id:Nat}{zs:List Int}:CC 1 id zs=.bR id 1 (dedup zs).length:=rfl
theorem Q5:∀{vs:List V},vs.all V.sc=true→vs.all V.ky=true∧vs.map strip=vs
 |[],_=>⟨rfl,rfl⟩
 |v::vs,h=>by
  simp only[GM,bS]at h;obtain⟨a,b⟩:=Q5 h.2;have h1:v.ky=true∧strip v=v:=by cases v<;>simp_all[V.sc,V.ky,strip,gV]
  simp only[GM,bS,oq,a,b,h1.1,h1.2,and_self]
theorem Y3{id t:Nat}{l:List Int}{vs:List V}(hv:vs.all V.sc=true)(hl:l≠[]):nK id 0 (.slice (some t) 1 (l.map fun n=>[V.int .i64 n])::vs)=some (.bR id 1 l.length::vs,some (dD l)):=by
 have h1:(l.map fun n=>[V.int .i64 n]).all (fun r=>r.length==1&&r.all V.sc)=true:=by
  simp[V.sc]
 have h2:(l.map fun n=>[V.int .i64 n]).isEmpty=false:=by cases l<;>simp at hl ⊢
 simp only[nK,h1,(Q5 hv).1,(Q5 hv).2,Ce,bG,h2,eD,wF,Yn]
theorem alm{id t:Nat}{l:List Int}{e:Int}(hl:l≠[]):kz id 0 (.tuple [.slice (some t) 1 (l.map fun n=>[V.int .i64 n]),i64 e])=some (.tuple [.bR id 1 l.length,i64 e],some (dD l)):=by
 simp only[kz];rw[Y3 (by rfl) hl]
theorem aAU{id t n:Nat}{e:Int}:kz id 0 (.tuple [.slice (some t) n [],i64 e])=some (.tuple [.dY n,i64 e],none):=rfl
theorem Y4{t:Nat}{l:List Int}:V.ky (.slice (some t) 1 (l.map fun n=>[V.int .i64 n]))=true:=by simp[V.ky,V.sc]
theorem aln{id t u:Nat}{l m:List Int}(hl:l≠[]):kz id 0 (.tuple [.slice (some t) 1 (l.map fun n=>[V.int .i64 n]),.slice (some u) 1 (m.map fun n=>[V.int .i64 n])]) =
  some (.tuple [.bR id 1 l.length,.slice none 1 (m.map fun n=>[V.int .i64 n])],some (dD l)):=by
 have h1:(l.map fun n=>[V.int .i64 n]).all (fun r=>r.length==1&&r.all V.sc)=true:=by simp[V.sc]
 have h2:(l.map fun n=>[V.int .i64 n]).isEmpty=false:=by cases l<;>simp at hl ⊢
 simp only[kz,nK,h1,GM,Y4,List.all_nil,Ce,bG,h2,eD,wF,Yn];rfl
theorem aAV{id t u n:Nat}{m:List Int}:kz id 0 (.tuple [.slice (some t) n [],.slice (some u) 1 (m.map fun n=>[V.int .i64 n])]) =
  some (.tuple [.dY n,.slice none 1 (m.map fun n=>[V.int .i64 n])],none):=by
 simp only[kz,nK,List.all_nil,GM,Y4,Ce,bG,List.isEmpty_nil];rfl
def L1(L:bD)(keep:df)(a:VC)(k:cE):cE:=fun e T=>match e with
 |.normal=>go L (.loop [] keep a) T k
 |.exit i=>k (.exit i) T
 |.ret=>k .ret T
@[simp] theorem aAW{L:bD}{keep:df}{a:VC}{k:cE}{T:St}:L1 L keep a k .normal T=go L (.loop [] keep a) T k:=rfl
@[simp] theorem aAX{L:bD}{keep:df}{a:VC}{k:cE}{T:St}{i:Nat}:L1 L keep a k (.exit i) T=k (.exit i) T:=rfl
@[simp] theorem aAY{L:bD}{keep:df}{a:VC}{k:cE}{T:St}:L1 L keep a k .ret T=k .ret T:=rfl
theorem vX{L:bD}{gh:List gP}{keep:df}{a:VC}{S:St}{k:cE}:go L (.loop gh keep a) S k=cQ (oz gh S) fun S=>go L a (S.keep keep) (L1 L keep a k):=by
 apply propext;constructor
 ·rintro⟨n,e,T,h,hk⟩
  simp only[VC.run]at h;cases hg:oz gh S with
  |none=>simp[hg]at h
  |some S1 =>
   rw[hg]at h;simp only at h;refine⟨S1,rfl,?_⟩;cases n with
   |zero=>simp[iter]at h
   |succ n =>
    simp only[iter]at h;cases hb:VC.run L (n+1) a (S1.keep keep) with
    |none=>rw[hb]at h;cases h
    |some y =>
     rw[hb]at h;obtain⟨e1,S2⟩:=y;refine⟨n+1,e1,S2,hb,?_⟩;cases e1 with
     |normal =>
      simp only at h;refine⟨n+1,e,T,?_,hk⟩;simp only[VC.run,oz];exact Ic (fun _ _ h=>h) (Ku n) h
     |exit i=>cases h;exact hk
     |ret=>cases h;exact hk
 ·rintro⟨S1,hg,n,e1,S2,hb,hk⟩
  cases e1 with
  |normal =>
   obtain⟨m,e,T,h,hk⟩:=hk;simp only[VC.run,oz]at h;refine⟨n+m+1,e,T,?_,hk⟩;simp only[VC.run,hg,iter];rw[yH (by omega) hb]
   exact Ic (fun _ _ h=>yH (by omega) h) (by omega) h
  |exit i =>
   refine⟨n+1,_,_,?_,hk⟩;simp only[VC.run,hg,iter];rw[yH (by omega) hb]
  |ret =>
   refine⟨n+1,_,_,?_,hk⟩;simp only[VC.run,hg,iter];rw[yH (by omega) hb]
@[simp high] theorem aAZ{L:bD}{d g m z:Nat}{x i:bw}{w:Bool}{os:List bH}{keep:df}{k:cE}{S:St} :
  eb L (⟨some d,.ov (some m) z x i,some (g,w)⟩::os) keep k S=kG w (look g S.env) (eb L (⟨some d,.ov (some m) z x i,none⟩::os) keep k S) (eb L os keep k (S.put (some d) .undef)):=by
 rw[iU,iU];simp only[bH.run];rcases look g S.env with _|v
 ·simp[cQ,kG]
 ·cases v with
  |bool b=>simp only[kG];cases b==w<;>simp
  |undef=>simp[kG]
  |_=>simp[cQ,kG]
abbrev z0:V:=.int .i64 0
abbrev zc(n:Int):bw:=.c (.int .i64 n)
abbrev zo(d:Nat)(o:VO):bH:=⟨some d,o,none⟩
abbrev zn(o:VO):bH:=⟨none,o,none⟩
abbrev zq(d g:Nat)(w:Bool)(o:VO):bH:=⟨some d,o,some (g,w)⟩
abbrev zm(d s:Nat):bH:=⟨some d,.mv (.t s),none⟩
abbrev zk(d s:Nat):bH:=⟨some d,.uf (.t s),none⟩
abbrev zf(d k s:Nat):bH:=⟨some d,.ti k (.t s),none⟩
abbrev zg(d s:Nat):bH:=⟨some d,.load .aA none (.t s),none⟩
abbrev zi(d s:Nat):bH:=⟨some d,.load .kb none (.t s),none⟩
abbrev zj(d l s:Nat):bH:=⟨some d,.load (.loc l) none (.t s),none⟩
abbrev zs(d l n s:Nat):bH:=⟨some d,.load (.loc l) (some n) (.t s),none⟩
abbrev za(d n a b:Nat):bH:=⟨some d,.ov none n (.t a) (.t b),none⟩
abbrev ze(d a k:Nat):bH:=⟨some d,.ext (.t a) k,none⟩
abbrev zl(d a:Nat):bH:=⟨some d,.len (.t a),none⟩
abbrev zr(ops:List bH)(keep:df):VC:=.region [] [] ops keep
abbrev zh(d:Nat)(n:Int):bH:=⟨some d,.mv (.c (.int .i64 n)),none⟩
abbrev zt(d:Nat)(b:Bool):bH:=⟨some d,.mv (.c (.bool b)),none⟩
abbrev zy(d:Nat):bH:=⟨some d,.mv (.c .cb),none⟩
abbrev zb(o:BinOp)(d a b:Nat):bH:=⟨some d,.bin o (.t a) (.t b),none⟩
abbrev zv(o:BinOp)(d a:Nat)(n:Int):bH:=⟨some d,.bin o (.t a) (.c (.int .i64 n)),none⟩
abbrev yb(o:BinOp)(d g:Nat)(w:Bool)(a b:Nat):bH:=⟨some d,.bin o (.t a) (.t b),some (g,w)⟩
abbrev yv(o:BinOp)(d g:Nat)(w:Bool)(a:Nat)(n:Int):bH:=⟨some d,.bin o (.t a) (.c (.int .i64 n)),some (g,w)⟩
abbrev ym(d g:Nat)(w:Bool)(s:Nat):bH:=⟨some d,.mv (.t s),some (g,w)⟩
abbrev yf(d g:Nat)(w:Bool)(k s:Nat):bH:=⟨some d,.ti k (.t s),some (g,w)⟩
abbrev yl(d g:Nat)(w:Bool)(a:Nat):bH:=⟨some d,.len (.t a),some (g,w)⟩
abbrev yi(d g:Nat)(w:Bool)(s:Nat):bH:=⟨some d,.load .kb none (.t s),some (g,w)⟩
abbrev yj(d g:Nat)(w:Bool)(l s:Nat):bH:=⟨some d,.load (.loc l) none (.t s),some (g,w)⟩
abbrev ys(d g:Nat)(w:Bool)(l n s:Nat):bH:=⟨some d,.load (.loc l) (some n) (.t s),some (g,w)⟩
abbrev ya(d g:Nat)(w:Bool)(n a b:Nat):bH:=⟨some d,.ov none n (.t a) (.t b),some (g,w)⟩
abbrev zp(d a b:Nat)(c:Bool):bH:=⟨some d,.pick (.t a) (.t b) (.c (.bool c)),none⟩
abbrev yp(d a:Nat)(c:Bool)(b:Nat):bH:=⟨some d,.pick (.t a) (.c (.bool c)) (.t b),none⟩
abbrev a0(s:Nat):Sh×bw:=([none],.t s)
abbrev ac(n:Int):Sh×bw:=([none],.c (.int .i64 n))
abbrev ad(k s:Nat):Sh×bw:=([some k],.t s)
abbrev zw(d:Nat)(b:Bool)(f:FuncId)(l:List (Sh×bw)):bH:=⟨some d,.call b (.c (.fn f [])) l [],none⟩
abbrev yw(d g:Nat)(w b:Bool)(f:FuncId)(l:List (Sh×bw)):bH:=⟨some d,.call b (.c (.fn f [])) l [],some (g,w)⟩
abbrev zd(l:Nat)(sh:Sh)(p x:Nat):bH:=⟨none,.store (.loc l) sh (.t p) (.t x),none⟩
abbrev yg(d n s:Nat):bH:=⟨some d,.load .kb (some n) (.t s),none⟩
abbrev zu(d x:Nat):bH:=⟨some d,.box d (.t x),none⟩
abbrev ye(d:Nat)(l:List V):bH:=⟨some d,.obj d l,none⟩
abbrev zz(ops:List bH)(keep:df)(r:VC):VC:=.seq (.region [] [] ops keep) r
abbrev yz(ids:List Nat)(ops:List bH)(keep:df)(r:VC):VC:=.seq (.region [] ids ops keep) r
abbrev yc(c:Nat)(a:VC):VC:=.cond (.t c) a .skip
abbrev zx(c i:Nat)(r:VC):VC:=.seq (.cond (.t c) .skip (.exit i)) r
end Go.Vm
