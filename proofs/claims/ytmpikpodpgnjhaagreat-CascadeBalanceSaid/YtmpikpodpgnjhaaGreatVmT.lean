/- The value machine, 23: walking what sorts and compacts, and what a caller owns. -/
import Derived.Test.YtmpikpodpgnjhaaGreatVmM
namespace Go.Vm
set_option linter.all false
def FZ(S:St)(k id:Nat)(d:Option Nat)(n:Nat):Option (List V)→Option St
 |some cs=>bif Nat.ble n cs.length&&Nat.ble n lim&&Nat.blt 0 n then match ug (cs.take n) with
  |some zs=>some ({ S with bb:=(id,(rU k zs).map (V.int .i64)++cs.drop n)::S.bb }.put d (xI k id zs))
  |none=>none
  else none
 |none=>none
@[simp] theorem aoM{S:St}{k id:Nat}{d:Option Nat}{n:Nat}:St.mut S k id d (some (.cb id 1 n))=FZ S k id d n (look id S.bb):=by
 unfold St.mut FZ;simp only;cases look id S.bb with
 |none=>rfl
 |some cs=>simp only[beq_self_eq_true,Bool.true_and];rfl
theorem Q2:∀zs:List Int,ug (dS zs)=some zs
 |[]=>rfl
 |z::zs=>by
  show(match ug (dS zs) with|some zs=>some (z::zs)|none=>none)=_
  rw[Q2 zs]
@[simp] theorem F2{S:St}{k id:Nat}{d:Option Nat}{n:Nat}{zs:List Int}(h:n=zs.length)(hl:n≤4294967296)(h0:0<n):FZ S k id d n (some (dS zs))=some ({ S with bb:=(id,dS (rU k zs))::S.bb }.put d (xI k id zs)):=by
 subst h;have h1:(dS zs).take zs.length=dS zs:=List.take_of_length_le (by simp)
 have h2:(dS zs).drop zs.length=[]:=List.drop_of_length_le (by simp)
 have h3:Nat.ble zs.length lim=true:=Nat.ble_eq_true_of_le hl;have h4:Nat.blt 0 zs.length=true:=Nat.ble_eq_true_of_le h0;simp only[FZ,h1,h2,Q2,List.append_nil,h3,h4];simp[dS]
@[simp] theorem aoN{id:Nat}{zs:List Int}:xI 0 id zs=.tuple []:=rfl
@[simp] theorem aoO{id:Nat}{zs:List Int}:xI 1 id zs=.cb id 1 (dedup zs).length:=rfl
theorem Ky:∀{vs:List V},vs.all V.sc=true→vs.all V.lT=true∧vs.map strip=vs
 |[],_=>⟨rfl,rfl⟩
 |v::vs,h=>by
  simp only[List.all_cons,Bool.and_eq_true]at h;obtain⟨a,b⟩:=Ky h.2;have h1:v.lT=true∧strip v=v:=by cases v<;>simp_all[V.sc,V.lT,strip,gX]
  simp only[List.all_cons,Bool.and_eq_true,List.map_cons,a,b,h1.1,h1.2,and_self]
theorem Q3{id t:Nat}{l:List Int}{vs:List V}(hv:vs.all V.sc=true)(hl:l≠[]):nT id 0 (.slice (some t) 1 (l.map fun n=>[V.int .i64 n])::vs)=some (.cb id 1 l.length::vs,some (dS l)):=by
 have h1:(l.map fun n=>[V.int .i64 n]).all (fun r=>r.length==1&&r.all V.sc)=true:=by
  simp[V.sc]
 have h2:(l.map fun n=>[V.int .i64 n]).isEmpty=false:=by cases l<;>simp at hl ⊢
 simp only[nT,h1,(Ky hv).1,(Ky hv).2,Bool.and_self,cond_true,h2,cond_false,List.length_map,Qp]
theorem ZT{id t:Nat}{l:List Int}{e:Int}(hl:l≠[]):jN id 0 (.tuple [.slice (some t) 1 (l.map fun n=>[V.int .i64 n]),i64 e])=some (.tuple [.cb id 1 l.length,i64 e],some (dS l)):=by
 simp only[jN];rw[Q3 (by rfl) hl]
theorem aoP{id t n:Nat}{e:Int}:jN id 0 (.tuple [.slice (some t) n [],i64 e])=some (.tuple [.dW n,i64 e],none):=rfl
theorem Q4{t:Nat}{l:List Int}:V.lT (.slice (some t) 1 (l.map fun n=>[V.int .i64 n]))=true:=by simp[V.lT,V.sc]
theorem ZU{id t u:Nat}{l m:List Int}(hl:l≠[]):jN id 0 (.tuple [.slice (some t) 1 (l.map fun n=>[V.int .i64 n]),.slice (some u) 1 (m.map fun n=>[V.int .i64 n])]) =
  some (.tuple [.cb id 1 l.length,.slice none 1 (m.map fun n=>[V.int .i64 n])],some (dS l)):=by
 have h1:(l.map fun n=>[V.int .i64 n]).all (fun r=>r.length==1&&r.all V.sc)=true:=by simp[V.sc]
 have h2:(l.map fun n=>[V.int .i64 n]).isEmpty=false:=by cases l<;>simp at hl ⊢
 simp only[jN,nT,h1,List.all_cons,Q4,List.all_nil,Bool.and_self,cond_true,h2,cond_false,List.length_map,Qp];rfl
theorem aoQ{id t u n:Nat}{m:List Int}:jN id 0 (.tuple [.slice (some t) n [],.slice (some u) 1 (m.map fun n=>[V.int .i64 n])]) =
  some (.tuple [.dW n,.slice none 1 (m.map fun n=>[V.int .i64 n])],none):=by
 simp only[jN,nT,List.all_nil,List.all_cons,Q4,Bool.and_self,cond_true,List.isEmpty_nil];rfl
def F3(L:bC)(keep:c9)(a:VC)(k:cH):cH:=fun e T=>match e with
 |.normal=>go L (.loop [] keep a) T k
 |.exit i=>k (.exit i) T
 |.ret=>k .ret T
@[simp] theorem aoR{L:bC}{keep:c9}{a:VC}{k:cH}{T:St}:F3 L keep a k .normal T=go L (.loop [] keep a) T k:=rfl
@[simp] theorem aoS{L:bC}{keep:c9}{a:VC}{k:cH}{T:St}{i:Nat}:F3 L keep a k (.exit i) T=k (.exit i) T:=rfl
@[simp] theorem aoT{L:bC}{keep:c9}{a:VC}{k:cH}{T:St}:F3 L keep a k .ret T=k .ret T:=rfl
theorem yH{L:bC}{gh:List iO}{keep:c9}{a:VC}{S:St}{k:cH}:go L (.loop gh keep a) S k=cN (mI gh S) fun S=>go L a (S.keep keep) (F3 L keep a k):=by
 apply propext;constructor
 ·rintro⟨n,e,T,h,hk⟩
  simp only[VC.run]at h;cases hg:mI gh S with
  |none=>simp[hg]at h
  |some S1 =>
   rw[hg]at h;simp only at h;refine⟨S1,rfl,?_⟩;cases n with
   |zero=>simp[iter]at h
   |succ n =>
    simp only[iter]at h;cases hb:VC.run L (n+1) a (S1.keep keep) with
    |none=>rw[hb]at h;cases h
    |some y =>
     rw[hb]at h;obtain⟨e1,S2⟩:=y;refine⟨n+1,e1,S2,hb,?_⟩;cases e1 with
     |normal =>
      simp only at h;refine⟨n+1,e,T,?_,hk⟩;simp only[VC.run,mI];exact CX (fun _ _ h=>h) (Nat.le_succ n) h
     |exit i=>cases h;exact hk
     |ret=>cases h;exact hk
 ·rintro⟨S1,hg,n,e1,S2,hb,hk⟩
  cases e1 with
  |normal =>
   obtain⟨m,e,T,h,hk⟩:=hk;simp only[VC.run,mI]at h;refine⟨n+m+1,e,T,?_,hk⟩;simp only[VC.run,hg,iter];rw[uG (by omega) hb]
   exact CX (fun _ _ h=>uG (by omega) h) (by omega) h
  |exit i =>
   refine⟨n+1,_,_,?_,hk⟩;simp only[VC.run,hg,iter];rw[uG (by omega) hb]
  |ret =>
   refine⟨n+1,_,_,?_,hk⟩;simp only[VC.run,hg,iter];rw[uG (by omega) hb]
@[simp high] theorem aoU{L:bC}{d g m z:Nat}{x i:bB}{w:Bool}{os:List bI}{keep:c9}{k:cH}{S:St} :
  eb L (⟨some d,.eg (some m) z x i,some (g,w)⟩::os) keep k S=jW w (look g S.env) (eb L (⟨some d,.eg (some m) z x i,none⟩::os) keep k S) (eb L os keep k (S.put (some d) .undef)):=by
 rw[iy,iy];simp only[bI.run];rcases look g S.env with _|v
 ·simp[cN,jW]
 ·cases v with
  |bool b=>simp only[jW];cases b==w<;>simp
  |undef=>simp[jW]
  |_=>simp[cN,jW]
abbrev z0:V:=.int .i64 0
abbrev zc(n:Int):bB:=.c (.int .i64 n)
abbrev zo(d:Nat)(o:VO):bI:=⟨some d,o,none⟩
abbrev zn(o:VO):bI:=⟨none,o,none⟩
abbrev zq(d g:Nat)(w:Bool)(o:VO):bI:=⟨some d,o,some (g,w)⟩
abbrev zm(d s:Nat):bI:=⟨some d,.mv (.t s),none⟩
abbrev zk(d s:Nat):bI:=⟨some d,.qn (.t s),none⟩
abbrev zf(d k s:Nat):bI:=⟨some d,.qW k (.t s),none⟩
abbrev zg(d s:Nat):bI:=⟨some d,.load .az none (.t s),none⟩
abbrev zi(d s:Nat):bI:=⟨some d,.load .jk none (.t s),none⟩
abbrev zj(d l s:Nat):bI:=⟨some d,.load (.loc l) none (.t s),none⟩
abbrev zs(d l n s:Nat):bI:=⟨some d,.load (.loc l) (some n) (.t s),none⟩
abbrev za(d n a b:Nat):bI:=⟨some d,.eg none n (.t a) (.t b),none⟩
abbrev ze(d a k:Nat):bI:=⟨some d,.ext (.t a) k,none⟩
abbrev zl(d a:Nat):bI:=⟨some d,.len (.t a),none⟩
abbrev zr(ops:List bI)(keep:c9):VC:=.region [] [] ops keep
abbrev zh(d:Nat)(n:Int):bI:=⟨some d,.mv (.c (.int .i64 n)),none⟩
abbrev zt(d:Nat)(b:Bool):bI:=⟨some d,.mv (.c (.bool b)),none⟩
abbrev zy(d:Nat):bI:=⟨some d,.mv (.c .aK),none⟩
abbrev zb(o:BinOp)(d a b:Nat):bI:=⟨some d,.bin o (.t a) (.t b),none⟩
abbrev zv(o:BinOp)(d a:Nat)(n:Int):bI:=⟨some d,.bin o (.t a) (.c (.int .i64 n)),none⟩
abbrev yb(o:BinOp)(d g:Nat)(w:Bool)(a b:Nat):bI:=⟨some d,.bin o (.t a) (.t b),some (g,w)⟩
abbrev yv(o:BinOp)(d g:Nat)(w:Bool)(a:Nat)(n:Int):bI:=⟨some d,.bin o (.t a) (.c (.int .i64 n)),some (g,w)⟩
abbrev ym(d g:Nat)(w:Bool)(s:Nat):bI:=⟨some d,.mv (.t s),some (g,w)⟩
abbrev yf(d g:Nat)(w:Bool)(k s:Nat):bI:=⟨some d,.qW k (.t s),some (g,w)⟩
abbrev yl(d g:Nat)(w:Bool)(a:Nat):bI:=⟨some d,.len (.t a),some (g,w)⟩
abbrev yi(d g:Nat)(w:Bool)(s:Nat):bI:=⟨some d,.load .jk none (.t s),some (g,w)⟩
abbrev yj(d g:Nat)(w:Bool)(l s:Nat):bI:=⟨some d,.load (.loc l) none (.t s),some (g,w)⟩
abbrev ys(d g:Nat)(w:Bool)(l n s:Nat):bI:=⟨some d,.load (.loc l) (some n) (.t s),some (g,w)⟩
abbrev ya(d g:Nat)(w:Bool)(n a b:Nat):bI:=⟨some d,.eg none n (.t a) (.t b),some (g,w)⟩
abbrev zp(d a b:Nat)(c:Bool):bI:=⟨some d,.pick (.t a) (.t b) (.c (.bool c)),none⟩
abbrev yp(d a:Nat)(c:Bool)(b:Nat):bI:=⟨some d,.pick (.t a) (.c (.bool c)) (.t b),none⟩
abbrev a0(s:Nat):Sh×bB:=([none],.t s)
abbrev ac(n:Int):Sh×bB:=([none],.c (.int .i64 n))
abbrev ad(k s:Nat):Sh×bB:=([some k],.t s)
abbrev zw(d:Nat)(b:Bool)(f:FuncId)(l:List (Sh×bB)):bI:=⟨some d,.call b (.c (.fn f [])) l [],none⟩
abbrev yw(d g:Nat)(w b:Bool)(f:FuncId)(l:List (Sh×bB)):bI:=⟨some d,.call b (.c (.fn f [])) l [],some (g,w)⟩
abbrev zd(l:Nat)(sh:Sh)(p x:Nat):bI:=⟨none,.store (.loc l) sh (.t p) (.t x),none⟩
abbrev yg(d n s:Nat):bI:=⟨some d,.load .jk (some n) (.t s),none⟩
abbrev zu(d x:Nat):bI:=⟨some d,.box d (.t x),none⟩
abbrev ye(d:Nat)(l:List V):bI:=⟨some d,.obj d l,none⟩
abbrev zz(ops:List bI)(keep:c9)(r:VC):VC:=.seq (.region [] [] ops keep) r
abbrev yz(ids:List Nat)(ops:List bI)(keep:c9)(r:VC):VC:=.seq (.region [] ids ops keep) r
abbrev yc(c:Nat)(a:VC):VC:=.cond (.t c) a .skip
abbrev zx(c i:Nat)(r:VC):VC:=.seq (.cond (.t c) .skip (.exit i)) r
end Go.Vm
