/- The value machine, 23: walking what sorts and compacts, and what a caller owns. -/
import Derived.Test.YtocclbnghhaejaaGreatVmM
namespace Go.Vm
set_option linter.all false
def IH(S:St)(k id:Nat)(d:Option Nat)(n:Nat):Option (List V)→Option St
 |some cs=>bif Nat.ble n cs.length&&Nat.ble n lim&&Nat.blt 0 n then match vO (cs.take n) with
  |some zs=>some ({ S with aU:=(id,(tC k zs).map (V.int .i64)++cs.drop n)::S.aU }.put d (Az k id zs))
  |none=>none
  else none
 |none=>none
@[simp] theorem aus{S:St}{k id:Nat}{d:Option Nat}{n:Nat}:St.mut S k id d (some (.bQ id 1 n))=IH S k id d n (look id S.aU):=by
 unfold St.mut IH;simp only;cases look id S.aU with
 |none=>rfl
 |some cs=>simp only[beq_self_eq_true,Bool.true_and];rfl
theorem Ug:∀zs:List Int,vO (dM zs)=some zs
 |[]=>rfl
 |z::zs=>by
  show(match vO (dM zs) with|some zs=>some (z::zs)|none=>none)=_
  rw[Ug zs]
@[simp] theorem II{S:St}{k id:Nat}{d:Option Nat}{n:Nat}{zs:List Int}(h:n=zs.length)(hl:n≤4294967296)(h0:0<n):IH S k id d n (some (dM zs))=some ({ S with aU:=(id,dM (tC k zs))::S.aU }.put d (Az k id zs)):=by
 subst h;have h1:(dM zs).take zs.length=dM zs:=List.take_of_length_le (by simp)
 have h2:(dM zs).drop zs.length=[]:=List.drop_of_length_le (by simp)
 have h3:Nat.ble zs.length lim=true:=Nat.ble_eq_true_of_le hl;have h4:Nat.blt 0 zs.length=true:=Nat.ble_eq_true_of_le h0;simp only[IH,h1,h2,Ug,List.append_nil,h3,h4];simp[dM]
@[simp] theorem aut{id:Nat}{zs:List Int}:Az 0 id zs=.tuple []:=rfl
@[simp] theorem auu{id:Nat}{zs:List Int}:Az 1 id zs=.bQ id 1 (dedup zs).length:=rfl
theorem M9:∀{vs:List V},vs.all V.sc=true→vs.all V.j7=true∧vs.map strip=vs
 |[],_=>⟨rfl,rfl⟩
 |v::vs,h=>by
  simp only[List.all_cons,Bool.and_eq_true]at h;obtain⟨a,b⟩:=M9 h.2;have h1:v.j7=true∧strip v=v:=by cases v<;>simp_all[V.sc,V.j7,strip,gY]
  simp only[List.all_cons,Bool.and_eq_true,List.map_cons,a,b,h1.1,h1.2,and_self]
theorem Uh{id t:Nat}{l:List Int}{vs:List V}(hv:vs.all V.sc=true)(hl:l≠[]):mK id 0 (.slice (some t) 1 (l.map fun n=>[V.int .i64 n])::vs)=some (.bQ id 1 l.length::vs,some (dM l)):=by
 have h1:(l.map fun n=>[V.int .i64 n]).all (fun r=>r.length==1&&r.all V.sc)=true:=by
  simp[V.sc]
 have h2:(l.map fun n=>[V.int .i64 n]).isEmpty=false:=by cases l<;>simp at hl ⊢
 simp only[mK,h1,(M9 hv).1,(M9 hv).2,Bool.and_self,cond_true,h2,cond_false,List.length_map,Tv]
theorem afK{id t:Nat}{l:List Int}{e:Int}(hl:l≠[]):j8 id 0 (.tuple [.slice (some t) 1 (l.map fun n=>[V.int .i64 n]),i64 e])=some (.tuple [.bQ id 1 l.length,i64 e],some (dM l)):=by
 simp only[j8];rw[Uh (by rfl) hl]
theorem auv{id t n:Nat}{e:Int}:j8 id 0 (.tuple [.slice (some t) n [],i64 e])=some (.tuple [.dR n,i64 e],none):=rfl
theorem Ui{t:Nat}{l:List Int}:V.j7 (.slice (some t) 1 (l.map fun n=>[V.int .i64 n]))=true:=by simp[V.j7,V.sc]
theorem afL{id t u:Nat}{l m:List Int}(hl:l≠[]):j8 id 0 (.tuple [.slice (some t) 1 (l.map fun n=>[V.int .i64 n]),.slice (some u) 1 (m.map fun n=>[V.int .i64 n])]) =
  some (.tuple [.bQ id 1 l.length,.slice none 1 (m.map fun n=>[V.int .i64 n])],some (dM l)):=by
 have h1:(l.map fun n=>[V.int .i64 n]).all (fun r=>r.length==1&&r.all V.sc)=true:=by simp[V.sc]
 have h2:(l.map fun n=>[V.int .i64 n]).isEmpty=false:=by cases l<;>simp at hl ⊢
 simp only[j8,mK,h1,List.all_cons,Ui,List.all_nil,Bool.and_self,cond_true,h2,cond_false,List.length_map,Tv];rfl
theorem auw{id t u n:Nat}{m:List Int}:j8 id 0 (.tuple [.slice (some t) n [],.slice (some u) 1 (m.map fun n=>[V.int .i64 n])]) =
  some (.tuple [.dR n,.slice none 1 (m.map fun n=>[V.int .i64 n])],none):=by
 simp only[j8,mK,List.all_nil,List.all_cons,Ui,Bool.and_self,cond_true,List.isEmpty_nil];rfl
def IJ(L:bw)(keep:cY)(a:VC)(k:cz):cz:=fun e T=>match e with
 |.normal=>go L (.loop [] keep a) T k
 |.exit i=>k (.exit i) T
 |.ret=>k .ret T
@[simp] theorem auy{L:bw}{keep:cY}{a:VC}{k:cz}{T:St}:IJ L keep a k .normal T=go L (.loop [] keep a) T k:=rfl
@[simp] theorem auz{L:bw}{keep:cY}{a:VC}{k:cz}{T:St}{i:Nat}:IJ L keep a k (.exit i) T=k (.exit i) T:=rfl
@[simp] theorem auA{L:bw}{keep:cY}{a:VC}{k:cz}{T:St}:IJ L keep a k .ret T=k .ret T:=rfl
theorem Bc{L:bw}{gh:List gG}{keep:cY}{a:VC}{S:St}{k:cz}:go L (.loop gh keep a) S k=cJ (nc gh S) fun S=>go L a (S.keep keep) (IJ L keep a k):=by
 apply propext;constructor
 ·rintro⟨n,e,T,h,hk⟩
  simp only[VC.run]at h;cases hg:nc gh S with
  |none=>simp[hg]at h
  |some S1 =>
   rw[hg]at h;simp only at h;refine⟨S1,rfl,?_⟩;cases n with
   |zero=>simp[iter]at h
   |succ n =>
    simp only[iter]at h;cases hb:VC.run L (n+1) a (S1.keep keep) with
    |none=>rw[hb]at h;cases h
    |some y =>
     rw[hb]at h;obtain⟨e1,S2⟩:=y;refine⟨n+1,e1,S2,hb,?_⟩;cases e1 with
     |normal =>
      simp only at h;refine⟨n+1,e,T,?_,hk⟩;simp only[VC.run,nc];exact E7 (fun _ _ h=>h) (Nat.le_succ n) h
     |exit i=>cases h;exact hk
     |ret=>cases h;exact hk
 ·rintro⟨S1,hg,n,e1,S2,hb,hk⟩
  cases e1 with
  |normal =>
   obtain⟨m,e,T,h,hk⟩:=hk;simp only[VC.run,nc]at h;refine⟨n+m+1,e,T,?_,hk⟩;simp only[VC.run,hg,iter];rw[wo (by omega) hb]
   exact E7 (fun _ _ h=>wo (by omega) h) (by omega) h
  |exit i =>
   refine⟨n+1,_,_,?_,hk⟩;simp only[VC.run,hg,iter];rw[wo (by omega) hb]
  |ret =>
   refine⟨n+1,_,_,?_,hk⟩;simp only[VC.run,hg,iter];rw[wo (by omega) hb]
@[simp high] theorem auB{L:bw}{d g m z:Nat}{x i:bq}{w:Bool}{os:List bH}{keep:cY}{k:cz}{S:St} :
  dW L (⟨some d,.na (some m) z x i,some (g,w)⟩::os) keep k S=kc w (look g S.env) (dW L (⟨some d,.na (some m) z x i,none⟩::os) keep k S) (dW L os keep k (S.put (some d) .undef)):=by
 rw[iD,iD];simp only[bH.run];rcases look g S.env with _|v
 ·simp[cJ,kc]
 ·cases v with
  |bool b=>simp only[kc];cases b==w<;>simp
  |undef=>simp[kc]
  |_=>simp[cJ,kc]
abbrev z0:V:=.int .i64 0
abbrev zc(n:Int):bq:=.c (.int .i64 n)
abbrev zo(d:Nat)(o:VO):bH:=⟨some d,o,none⟩
abbrev zn(o:VO):bH:=⟨none,o,none⟩
abbrev zq(d g:Nat)(w:Bool)(o:VO):bH:=⟨some d,o,some (g,w)⟩
abbrev zm(d s:Nat):bH:=⟨some d,.mv (.t s),none⟩
abbrev zk(d s:Nat):bH:=⟨some d,.sC (.t s),none⟩
abbrev zf(d k s:Nat):bH:=⟨some d,.ri k (.t s),none⟩
abbrev zg(d s:Nat):bH:=⟨some d,.load .aF none (.t s),none⟩
abbrev zi(d s:Nat):bH:=⟨some d,.load .jK none (.t s),none⟩
abbrev zj(d l s:Nat):bH:=⟨some d,.load (.loc l) none (.t s),none⟩
abbrev zs(d l n s:Nat):bH:=⟨some d,.load (.loc l) (some n) (.t s),none⟩
abbrev za(d n a b:Nat):bH:=⟨some d,.na none n (.t a) (.t b),none⟩
abbrev ze(d a k:Nat):bH:=⟨some d,.ext (.t a) k,none⟩
abbrev zl(d a:Nat):bH:=⟨some d,.len (.t a),none⟩
abbrev zr(ops:List bH)(keep:cY):VC:=.region [] [] ops keep
abbrev zh(d:Nat)(n:Int):bH:=⟨some d,.mv (.c (.int .i64 n)),none⟩
abbrev zt(d:Nat)(b:Bool):bH:=⟨some d,.mv (.c (.bool b)),none⟩
abbrev zy(d:Nat):bH:=⟨some d,.mv (.c .bV),none⟩
abbrev zb(o:BinOp)(d a b:Nat):bH:=⟨some d,.bin o (.t a) (.t b),none⟩
abbrev zv(o:BinOp)(d a:Nat)(n:Int):bH:=⟨some d,.bin o (.t a) (.c (.int .i64 n)),none⟩
abbrev yb(o:BinOp)(d g:Nat)(w:Bool)(a b:Nat):bH:=⟨some d,.bin o (.t a) (.t b),some (g,w)⟩
abbrev yv(o:BinOp)(d g:Nat)(w:Bool)(a:Nat)(n:Int):bH:=⟨some d,.bin o (.t a) (.c (.int .i64 n)),some (g,w)⟩
abbrev ym(d g:Nat)(w:Bool)(s:Nat):bH:=⟨some d,.mv (.t s),some (g,w)⟩
abbrev yf(d g:Nat)(w:Bool)(k s:Nat):bH:=⟨some d,.ri k (.t s),some (g,w)⟩
abbrev yl(d g:Nat)(w:Bool)(a:Nat):bH:=⟨some d,.len (.t a),some (g,w)⟩
abbrev yi(d g:Nat)(w:Bool)(s:Nat):bH:=⟨some d,.load .jK none (.t s),some (g,w)⟩
abbrev yj(d g:Nat)(w:Bool)(l s:Nat):bH:=⟨some d,.load (.loc l) none (.t s),some (g,w)⟩
abbrev ys(d g:Nat)(w:Bool)(l n s:Nat):bH:=⟨some d,.load (.loc l) (some n) (.t s),some (g,w)⟩
abbrev ya(d g:Nat)(w:Bool)(n a b:Nat):bH:=⟨some d,.na none n (.t a) (.t b),some (g,w)⟩
abbrev zp(d a b:Nat)(c:Bool):bH:=⟨some d,.pick (.t a) (.t b) (.c (.bool c)),none⟩
abbrev yp(d a:Nat)(c:Bool)(b:Nat):bH:=⟨some d,.pick (.t a) (.c (.bool c)) (.t b),none⟩
abbrev a0(s:Nat):Sh×bq:=([none],.t s)
abbrev ac(n:Int):Sh×bq:=([none],.c (.int .i64 n))
abbrev ad(k s:Nat):Sh×bq:=([some k],.t s)
abbrev zw(d:Nat)(b:Bool)(f:FuncId)(l:List (Sh×bq)):bH:=⟨some d,.call b (.c (.fn f [])) l [],none⟩
abbrev yw(d g:Nat)(w b:Bool)(f:FuncId)(l:List (Sh×bq)):bH:=⟨some d,.call b (.c (.fn f [])) l [],some (g,w)⟩
abbrev zd(l:Nat)(sh:Sh)(p x:Nat):bH:=⟨none,.store (.loc l) sh (.t p) (.t x),none⟩
abbrev yg(d n s:Nat):bH:=⟨some d,.load .jK (some n) (.t s),none⟩
abbrev zu(d x:Nat):bH:=⟨some d,.box d (.t x),none⟩
abbrev ye(d:Nat)(l:List V):bH:=⟨some d,.obj d l,none⟩
abbrev zz(ops:List bH)(keep:cY)(r:VC):VC:=.seq (.region [] [] ops keep) r
abbrev yz(ids:List Nat)(ops:List bH)(keep:cY)(r:VC):VC:=.seq (.region [] ids ops keep) r
abbrev yc(c:Nat)(a:VC):VC:=.cond (.t c) a .skip
abbrev zx(c i:Nat)(r:VC):VC:=.seq (.cond (.t c) .skip (.exit i)) r
end Go.Vm
