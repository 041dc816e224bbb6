/- The value machine, 23: walking what sorts and compacts, and what a caller owns. -/
import Derived.Test.YtmpikpodpgnjhaaGreatVmM
namespace Go.Vm
set_option linter.all false
def FX(S:St)(k id:Nat)(d:Option Nat)(n:Nat):Option (List V)→Option St
 |some cs=>bif Nat.ble n cs.length&&Nat.ble n lim&&Nat.blt 0 n then match uF (cs.take n) with
  |some zs=>some ({ S with aV:=(id,(sd k zs).map (V.int .i64)++cs.drop n)::S.aV }.put d (yn k id zs))
  |none=>none
  else none
 |none=>none
@[simp] theorem aop{S:St}{k id:Nat}{d:Option Nat}{n:Nat}:St.mut S k id d (some (.bO id 1 n))=FX S k id d n (look id S.aV):=by
 unfold St.mut FX;simp only;cases look id S.aV with
 |none=>rfl
 |some cs=>simp only[beq_self_eq_true,Bool.true_and];rfl
theorem QV:∀zs:List Int,uF (dv zs)=some zs
 |[]=>rfl
 |z::zs=>by
  show(match uF (dv zs) with|some zs=>some (z::zs)|none=>none)=_
  rw[QV zs]
@[simp] theorem FY{S:St}{k id:Nat}{d:Option Nat}{n:Nat}{zs:List Int}(h:n=zs.length)(hl:n≤4294967296)(h0:0<n):FX S k id d n (some (dv zs))=some ({ S with aV:=(id,dv (sd k zs))::S.aV }.put d (yn k id zs)):=by
 subst h;have h1:(dv zs).take zs.length=dv zs:=List.take_of_length_le (by simp)
 have h2:(dv zs).drop zs.length=[]:=List.drop_of_length_le (by simp)
 have h3:Nat.ble zs.length lim=true:=Nat.ble_eq_true_of_le hl;have h4:Nat.blt 0 zs.length=true:=Nat.ble_eq_true_of_le h0;simp only[FX,h1,h2,QV,List.append_nil,h3,h4];simp[dv]
@[simp] theorem aoq{id:Nat}{zs:List Int}:yn 0 id zs=.tuple []:=rfl
@[simp] theorem aor{id:Nat}{zs:List Int}:yn 1 id zs=.bO id 1 (dedup zs).length:=rfl
theorem Ko:∀{vs:List V},vs.all V.sc=true→vs.all V.lI=true∧vs.map strip=vs
 |[],_=>⟨rfl,rfl⟩
 |v::vs,h=>by
  simp only[List.all_cons,Bool.and_eq_true]at h;obtain⟨a,b⟩:=Ko h.2;have h1:v.lI=true∧strip v=v:=by cases v<;>simp_all[V.sc,V.lI,strip,gq]
  simp only[List.all_cons,Bool.and_eq_true,List.map_cons,a,b,h1.1,h1.2,and_self]
theorem Kp{id t:Nat}{l:List Int}{vs:List V}(hv:vs.all V.sc=true)(hl:l≠[]):mz id 0 (.slice (some t) 1 (l.map fun n=>[V.int .i64 n])::vs)=some (.bO id 1 l.length::vs,some (dv l)):=by
 have h1:(l.map fun n=>[V.int .i64 n]).all (fun r=>r.length==1&&r.all V.sc)=true:=by
  simp[V.sc]
 have h2:(l.map fun n=>[V.int .i64 n]).isEmpty=false:=by cases l<;>simp at hl ⊢
 simp only[mz,h1,(Ko hv).1,(Ko hv).2,Bool.and_self,cond_true,h2,cond_false,List.length_map,Qj]
theorem abA{id t:Nat}{l:List Int}{e:Int}(hl:l≠[]):iD id 0 (.tuple [.slice (some t) 1 (l.map fun n=>[V.int .i64 n]),i64 e])=some (.tuple [.bO id 1 l.length,i64 e],some (dv l)):=by
 simp only[iD];rw[Kp (by rfl) hl]
theorem aos{id t n:Nat}{e:Int}:iD id 0 (.tuple [.slice (some t) n [],i64 e])=some (.tuple [.dH n,i64 e],none):=rfl
theorem QW{t:Nat}{l:List Int}:V.lI (.slice (some t) 1 (l.map fun n=>[V.int .i64 n]))=true:=by simp[V.lI,V.sc]
theorem abB{id t u:Nat}{l m:List Int}(hl:l≠[]):iD id 0 (.tuple [.slice (some t) 1 (l.map fun n=>[V.int .i64 n]),.slice (some u) 1 (m.map fun n=>[V.int .i64 n])]) =
  some (.tuple [.bO id 1 l.length,.slice none 1 (m.map fun n=>[V.int .i64 n])],some (dv l)):=by
 have h1:(l.map fun n=>[V.int .i64 n]).all (fun r=>r.length==1&&r.all V.sc)=true:=by simp[V.sc]
 have h2:(l.map fun n=>[V.int .i64 n]).isEmpty=false:=by cases l<;>simp at hl ⊢
 simp only[iD,mz,h1,List.all_cons,QW,List.all_nil,Bool.and_self,cond_true,h2,cond_false,List.length_map,Qj];rfl
theorem aot{id t u n:Nat}{m:List Int}:iD id 0 (.tuple [.slice (some t) n [],.slice (some u) 1 (m.map fun n=>[V.int .i64 n])]) =
  some (.tuple [.dH n,.slice none 1 (m.map fun n=>[V.int .i64 n])],none):=by
 simp only[iD,mz,List.all_nil,List.all_cons,QW,Bool.and_self,cond_true,List.isEmpty_nil];rfl
def FZ(L:bm)(keep:cR)(a:VC)(k:cf):cf:=fun e T=>match e with
 |.normal=>go L (.loop [] keep a) T k
 |.exit i=>k (.exit i) T
 |.ret=>k .ret T
@[simp] theorem aou{L:bm}{keep:cR}{a:VC}{k:cf}{T:St}:FZ L keep a k .normal T=go L (.loop [] keep a) T k:=rfl
@[simp] theorem aov{L:bm}{keep:cR}{a:VC}{k:cf}{T:St}{i:Nat}:FZ L keep a k (.exit i) T=k (.exit i) T:=rfl
@[simp] theorem aow{L:bm}{keep:cR}{a:VC}{k:cf}{T:St}:FZ L keep a k .ret T=k .ret T:=rfl
theorem y6{L:bm}{gh:List hY}{keep:cR}{a:VC}{S:St}{k:cf}:go L (.loop gh keep a) S k=cu (mB gh S) fun S=>go L a (S.keep keep) (FZ L keep a k):=by
 apply propext;constructor
 ·rintro⟨n,e,T,h,hk⟩
  simp only[VC.run]at h;cases hg:mB gh S with
  |none=>simp[hg]at h
  |some S1 =>
   rw[hg]at h;simp only at h;refine⟨S1,rfl,?_⟩;cases n with
   |zero=>simp[iter]at h
   |succ n =>
    simp only[iter]at h;cases hb:VC.run L (n+1) a (S1.keep keep) with
    |none=>rw[hb]at h;cases h
    |some y =>
     rw[hb]at h;obtain⟨e1,S2⟩:=y;refine⟨n+1,e1,S2,hb,?_⟩;cases e1 with
     |normal =>
      simp only at h;refine⟨n+1,e,T,?_,hk⟩;simp only[VC.run,mB];exact CK (fun _ _ h=>h) (Nat.le_succ n) h
     |exit i=>cases h;exact hk
     |ret=>cases h;exact hk
 ·rintro⟨S1,hg,n,e1,S2,hb,hk⟩
  cases e1 with
  |normal =>
   obtain⟨m,e,T,h,hk⟩:=hk;simp only[VC.run,mB]at h;refine⟨n+m+1,e,T,?_,hk⟩;simp only[VC.run,hg,iter];rw[u3 (by omega) hb]
   exact CK (fun _ _ h=>u3 (by omega) h) (by omega) h
  |exit i =>
   refine⟨n+1,_,_,?_,hk⟩;simp only[VC.run,hg,iter];rw[u3 (by omega) hb]
  |ret =>
   refine⟨n+1,_,_,?_,hk⟩;simp only[VC.run,hg,iter];rw[u3 (by omega) hb]
@[simp high] theorem aox{L:bm}{d g m z:Nat}{x i:bj}{w:Bool}{os:List bN}{keep:cR}{k:cf}{S:St} :
  dJ L (⟨some d,.nA (some m) z x i,some (g,w)⟩::os) keep k S=ib w (look g S.env) (dJ L (⟨some d,.nA (some m) z x i,none⟩::os) keep k S) (dJ L os keep k (S.put (some d) .undef)):=by
 rw[gJ,gJ];simp only[bN.run];rcases look g S.env with _|v
 ·simp[cu,ib]
 ·cases v with
  |bool b=>simp only[ib];cases b==w<;>simp
  |undef=>simp[ib]
  |_=>simp[cu,ib]
abbrev z0:V:=.int .i64 0
abbrev zs(d l n s:Nat):bN:=⟨some d,.load (.loc l) (some n) (.t s),none⟩
abbrev zv(o:BinOp)(d a:Nat)(n:Int):bN:=⟨some d,.bin o (.t a) (.c (.int .i64 n)),none⟩
abbrev yv(o:BinOp)(d g:Nat)(w:Bool)(a:Nat)(n:Int):bN:=⟨some d,.bin o (.t a) (.c (.int .i64 n)),some (g,w)⟩
abbrev ys(d g:Nat)(w:Bool)(l n s:Nat):bN:=⟨some d,.load (.loc l) (some n) (.t s),some (g,w)⟩
abbrev a0(s:Nat):Sh×bj:=([none],.t s)
abbrev ad(k s:Nat):Sh×bj:=([some k],.t s)
abbrev zz(ops:List bN)(keep:cR)(r:VC):VC:=.seq (.region [] [] ops keep) r
end Go.Vm
