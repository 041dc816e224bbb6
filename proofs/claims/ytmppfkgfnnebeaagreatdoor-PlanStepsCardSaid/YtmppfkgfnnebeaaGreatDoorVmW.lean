/- The value machine, W: the compiled copies, written in letters, and read back. -/
import Derived.Test.YtmppfkgfnnebeaaGreatDoorVmT
namespace Go.Vm
set_option linter.all false
inductive Rs where
 |mk (l:List Nat) (d:Nat) (k:df) (s:List Nat)
abbrev Rd(α:Type):=Rs→Option (α×Rs)
section
variable {α β γ δ ε ζ η:Type}
def a1(c:α→β)(p:Rd α)(s:Rs):Option (β×Rs):=match p s with
 |some (a,s)=>some (c a,s)
 |none=>none
def a2(c:α→β→γ)(p:Rd α)(q:Rd β)(s:Rs):Option (γ×Rs):=match p s with
 |some (a,s)=>a1 (c a) q s
 |none=>none
def a3(c:α→β→γ→δ)(p:Rd α)(q:Rd β)(t:Rd γ)(s:Rs):Option (δ×Rs):=match p s with
 |some (a,s)=>a2 (c a) q t s
 |none=>none
def a4(c:α→β→γ→δ→ε)(p:Rd α)(q:Rd β)(t:Rd γ)(u:Rd δ)(s:Rs):Option (ε×Rs):=match p s with
 |some (a,s)=>a3 (c a) q t u s
 |none=>none
def a5(c:α→β→γ→δ→ε→ζ)(p:Rd α)(q:Rd β)(t:Rd γ)(u:Rd δ)(v:Rd ε)(s:Rs):Option (ζ×Rs):=match p s with
 |some (a,s)=>a4 (c a) q t u v s
 |none=>none
def a6(c:α→β→γ→δ→ε→ζ→η)(p:Rd α)(q:Rd β)(t:Rd γ)(u:Rd δ)(v:Rd ε)(x:Rd ζ)(s:Rs):Option (η×Rs):=match p s with
 |some (a,s)=>a5 (c a) q t u v x s
 |none=>none
def th(p:Rd α)(f:α→Rd β)(s:Rs):Option (β×Rs):=match p s with
 |some (a,s)=>f a s
 |none=>none
def pu(a:α)(s:Rs):Option (α×Rs):=some (a,s)
def no(_:Rs):Option (α×Rs):=none
def rS:Rd Nat
 |.mk (a::l) d k s=>some (a,.mk l d k s)
 |_=>none
def Za:Nat→Nat→Rd Nat
 |0,a,s=>some (a,s)
 |n+1,a,s=>match rS s with
  |some (b,s)=>Za n (62*a+b) s
  |none=>none
def rN(s:Rs):Option (Nat×Rs):=match rS s with
 |some (a,s)=>if a<48 then some (a,s) else if a<61 then a1 (· + (62*a-2928)) rS s else th rS (fun n=>Za n 0) s
 |none=>none
def rL(p:Rd α):Nat→Rd (List α)
 |0,s=>some ([],s)
 |n+1,s=>match p s with
  |some (a,s)=>match rL p n s with
   |some (as,s)=>some (a::as,s)
   |none=>none
  |none=>none
def rl(p:Rd α):Rd (List α):=th rN (rL p)
def rB:Rd Bool:=a1 (· == 1) rS
def opt:Nat→Option Nat
 |0=>none
 |n+1=>some n
def rO:Rd (Option Nat):=a1 opt rN
def toZ(n:Nat):Int:=if n % 2=0 then (n / 2:Nat) else -(n / 2:Nat)
def rZ:Rd Int:=a1 toZ rN
abbrev fJ:=(α:Type)→Nat→α→List α
def rR(r:fJ)(p:Rd α):Rd (List α):=th rN fun n=>match n with
 |0=>a2 (r α) rN p
 |n+1=>rL p n
def oF(r:fJ):Rd Sh:=rR r rO
def rK:Rd IntKind:=a1 ([.i8,.i16,.i32,.i64,.u8,.u16,.u32,.u64].getD · .i64) rS
def Q8:Rd V:=th rS fun n=>match n with
 |0=>a1 (.int .i64) rZ
 |1=>a1 .bool rB
 |2=>pu .cb
 |3=>a1 (.slice none · []) rN
 |4=>pu .gq
 |5=>a1 (.fn · []) rN
 |6=>pu .gu
 |7=>pu .gw
 |8=>a1 (fun l=>.str (l.map UInt8.ofNat)) (rl rN)
 |9=>a2 .int rK rZ
 |_=>no
def rV(r:fJ):Rd V
 |.mk (10::l) d k s=>a1 .agg (rR r Q8) (.mk l d k s)
 |.mk (11::l) d k s=>a1 (.eP · 0) (rR r Q8) (.mk l d k s)
 |s=>Q8 s
def rX(r:fJ):Rd bw:=th rN fun n=>match n with
 |0=>a1 (fun n=>.c (.int .i64 n)) rZ
 |1=>a1 .c (rV r)
 |n+2=>pu (.t n)
def Zc(r:fJ):Rd (Option bw):=th rS fun n=>match n with
 |0=>pu none
 |_=>a1 some (rX r)
def Zd:Rd jC:=a1 (fun n=>match n with|0=>.kb|1=>.aA|n+2=>.loc n) rN
def alA:Rd BinOp:=a1 ([.add,.sub,.mul,.quo,.rem,.and,.or,.xor,.shl,.shr,.andNot,.eql,.neq,.lss,.leq,.gtr,.geq].getD · .add) rS
def rUn:Rd UnOp:=a1 ([.neg,.xor,.not,.plus].getD · .not) rS
def Q9(r:fJ):Rd (List (Sh×bw)):=rl (a2 .mk (oF r) (rX r))
def Ze(r:fJ)(d:Nat):Nat→Rd VO
 |0=>a1 .mv (rX r)
 |1=>a3 .pick (rX r) (rX r) (rX r)
 |2=>a2 .obj (pu d) (rR r (rV r))
 |3=>a2 .box (pu d) (rX r)
 |4=>a2 .u7 (oF r) (rX r)
 |5=>a2 .u9 (oF r) (rR r (rV r))
 |6=>pu .vb
 |7=>a6 .wJ rB (rl rN) (rV r) rB (rX r) (rX r)
 |8=>a6 .vd rB (rl rN) (oF r) (rX r) (rX r) (rX r)
 |9=>a2 .build (rR r (rV r)) (rl (a3 (fun a b c=>(a,b,c)) rN rN (rX r)))
 |10=>a5 .lit rO (oF r) (rR r (rV r)) rN (rl (a2 .mk rN (rX r)))
 |11=>a3 .load Zd rO (rX r)
 |12=>a4 .store Zd (oF r) (rX r) (rX r)
 |13=>a2 .tg rN (rX r)
 |14=>a1 .y8 rN
 |15=>a1 .wK (rX r)
 |16=>a3 .grow rN rN (rX r)
 |17=>a4 .vg rN rO (rX r) (rX r)
 |18=>a2 .wL rB (rX r)
 |19=>a3 .vi rN (rX r) (rX r)
 |20=>a1 .uf (rX r)
 |21=>a3 .bin alA (rX r) (rX r)
 |22=>a3 .beq rB (rX r) (rX r)
 |23=>a4 .iE rB (rl rN) (rX r) (rX r)
 |24=>a2 .un rUn (rX r)
 |25=>a2 .conv rK (rX r)
 |26=>a2 .ti rN (rX r)
 |27=>a4 .ov rO rN (rX r) (rX r)
 |28=>a5 .idx rN rN rB (rX r) (rX r)
 |29=>a3 .field rN rO (rX r)
 |30=>a1 .len (rX r)
 |31=>a1 .vj (rX r)
 |32=>th rN fun f=>a6 (.app f) rO rO (oF r) rN (rX r) (rX r)
 |33=>a6 .tj rN rN rO (oF r) (rX r) (rX r)
 |34=>a2 .ext (rX r) rN
 |35=>a4 .call rB (rX r) (Q9 r) (rl (a2 .mk rN rN))
 |36=>a4 .wM rN rN rN (rX r)
 |37=>a2 .sd (rX r) (Q9 r)
 |38=>a3 .se (rX r) (rl (a3 (fun a b c=>(a,b,c)) (oF r) (oF r) (rX r))) (rl rN)
 |39=>a5 .own (rX r) (rl (a3 (fun a b c=>(a,b,c)) (oF r) (oF r) (rX r))) (rl rN) rN rN
 |40=>a3 .sf (rX r) (Q9 r) rN
 |41=>a3 .ug (pu d) (rR r (rV r)) (rX r)
 |42=>a4 .wN rN (rX r) (Zc r) (Zc r)
 |43=>a3 .mm rB (rX r) (rX r)
 |44=>a4 .vl rB (rX r) (rX r) (rX r)
 |45=>a2 .wO rN (rl (rX r))
 |46=>a3 .arr rN rN (rX r)
 |47=>a1 .vh (rX r)
 |_=>no
def rD:Nat→Rd (Option Nat)
 |0,.mk l d k s=>some (some (d+1),.mk l (d+1) k (s++[d+1]))
 |1,s=>match rN s with
  |some (n,.mk l _ k s)=>some (some n,.mk l n k (s++[n]))
  |none=>none
 |_,s=>some (none,s)
def Rb(r:fJ):Rd bH:=th rS fun t=>if t<48 then th (rD 0) fun d=>a1 (⟨d,·,none⟩) (Ze r (d.getD 0) t)
 else th (rD ((t-48) % 3)) fun d=>th (th rS (Ze r (d.getD 0))) fun o=>if t<51 then pu ⟨d,o,none⟩ else a2 (fun a b=>⟨d,o,some (a,b)⟩) rN rB
def rG(r:fJ):Rd gP:=th rS fun n=>match n with
 |0=>a3 .norm rN rN rN
 |1=>a4 .oT rN rN rN rN
 |2=>a2 .freeze rN (oF r)
 |3=>a4 .KD rN rN rN rN
 |4=>a2 .jD rN rN
 |5=>a3 .KE rN rN (oF r)
 |6=>a3 .sj rN rN rN
 |7=>a2 .share rN (oF r)
 |8=>a2 .KF rN (rl (oF r))
 |9=>a2 .G9 rN (rl (oF r))
 |10=>a4 .wP rN rN rN rN
 |11=>a4 .A1 rN rN rN rN
 |_=>a3 .A2 rN rN (oF r)
def alC(n:Nat):List Bool:=[n % 2==1,n / 2 % 2==1,n / 4 % 2==1,n / 8 % 2==1,n / 16==1]
def Re:List Nat→List Bool→List Nat
 |a::as,true::bs=>a::Re as bs
 |_::as,false::bs=>Re as bs
 |_,_=>[]
def rE(f:Nat):Rd (List Nat)
 |.mk l d k s=>if f % 2=0 then rl rN (.mk l d k s) else a1 (fun bs=>Re (k.e++s) (bs.flatMap alC)) (rL rS ((k.e.length+s.length+4) / 5)) (.mk l d k s)
def rKo(f:Nat):Rd (List Nat)
 |.mk l d k s=>if f / 2 % 2=0 then rl rN (.mk l d k s) else some (k.o,.mk l d k s)
def rKt(f:Nat):Rd (List Nat)
 |.mk l d k s=>if f / 4=0 then rl rN (.mk l d k s) else some (k.t,.mk l d k s)
def Rf(s:Rs):Option (df×Rs):=match th rS (fun f=>a3 .mk (rE f) (rKo f) (rKt f)) s with
 |some (k,.mk l d _ _)=>some (k,.mk l d k [])
 |none=>none
def Fq(r:fJ):Nat→Rd VC
 |0=>a2 (.region [] []) (rl (Rb r)) Rf
 |1=>a3 (.region []) (rl rN) (rl (Rb r)) Rf
 |_=>a4 .region (rl (rG r)) (rl rN) (rl (Rb r)) Rf
def vY(r:fJ)(env:List VC):Nat→Rd VC
 |0=>no
 |n+1=>th rS fun t=>match t with
  |0=>pu .skip
  |1=>pu .ret
  |2=>pu .dead
  |3=>a1 .exit rN
  |4=>a2 .block rN (vY r env n)
  |5=>a2 .seq (vY r env n) (vY r env n)
  |6=>a3 .cond (rX r) (vY r env n) (vY r env n)
  |7=>a2 (fun c a=>.cond (.t c) a .skip) rN (vY r env n)
  |8=>Fq r 0
  |9=>Fq r 1
  |10=>Fq r 2
  |11=>a2 .seq (Fq r 0) (vY r env n)
  |12=>a2 .seq (Fq r 1) (vY r env n)
  |13=>a2 .seq (Fq r 2) (vY r env n)
  |14=>a3 (fun c i a=>.seq (.cond (.t c) .skip (.exit i)) a) rN rN (vY r env n)
  |15=>a1 (env.getD · .skip) rN
  |16=>a1 .Cu (rl (rG r))
  |_=>no
def alG(r:fJ):Rd tl:=th rS fun n=>match n with
 |0=>a2 .t rN (oF r)
 |_=>a3 .c rN rB (oF r)
def rF(r:fJ)(env:List VC):Rd ba:=a5 (fun n rs ds sp b=>⟨n,b,rs,ds,sp⟩) rN (rl (alG r)) (rl rN) rO (vY r env 500)
end
def ix(c:Char):Nat:=if c.toNat<58 then c.toNat-48 else if c.toNat<91 then c.toNat-55 else c.toNat-61
def Dd{α:Type}(p:Rd α)(l:List Char):Option α:=match p (.mk (l.map ix) 0 ⟨[],[],[]⟩ []) with
 |some (a,.mk [] _ _ _)=>some a
 |_=>none
def rp(r:fJ)(env:List VC)(l:List Char):Option VC:=Dd (vY r env 500) l
def ru(r:fJ)(env:List VC)(l:List Char):Option ba:=Dd (rF r env) l
def Zh(s:String)(x:fJ→VC):Prop:=∃l,s=String.ofList l∧∀r,rp r [] l=some (x r)
theorem cy{l:List Char}{x:fJ→VC}(h:∀r,rp r [] l=some (x r):=by intros;cbv):Zh (String.ofList l) x:=⟨l,rfl,h⟩
abbrev cz(s:String)(b:Type):=∀x,Zh s x→b
def Zi(s:String)(x:fJ→VC→VC):Prop:=∃l,s=String.ofList l∧∀r a0,rp r [a0] l=some (x r a0)
theorem Fs{l:List Char}{x:fJ→VC→VC}(h:∀r a0,rp r [a0] l=some (x r a0):=by intros;cbv):Zi (String.ofList l) x:=⟨l,rfl,h⟩
abbrev Ft(s:String)(b:Type):=∀x,Zi s x→b
def Zj(s:String)(x:fJ→VC→VC→VC):Prop:=∃l,s=String.ofList l∧∀r a0 a1,rp r [a0,a1] l=some (x r a0 a1)
theorem Zk{l:List Char}{x:fJ→VC→VC→VC}(h:∀r a0 a1,rp r [a0,a1] l=some (x r a0 a1):=by intros;cbv):Zj (String.ofList l) x:=⟨l,rfl,h⟩
abbrev Zl(s:String)(b:Type):=∀x,Zj s x→b
def Zr(s:String)(x:fJ→ba):Prop:=∃l,s=String.ofList l∧∀r,ru r [] l=some (x r)
theorem cR{l:List Char}{x:fJ→ba}(h:∀r,ru r [] l=some (x r):=by intros;cbv):Zr (String.ofList l) x:=⟨l,rfl,h⟩
abbrev cS(s:String)(b:Type):=∀x,Zr s x→b
def Zs(s:String)(x:fJ→VC→ba):Prop:=∃l,s=String.ofList l∧∀r a0,ru r [a0] l=some (x r a0)
theorem dA{l:List Char}{x:fJ→VC→ba}(h:∀r a0,ru r [a0] l=some (x r a0):=by intros;cbv):Zs (String.ofList l) x:=⟨l,rfl,h⟩
abbrev dB(s:String)(b:Type):=∀x,Zs s x→b
def Zt(s:String)(x:fJ→VC→VC→ba):Prop:=∃l,s=String.ofList l∧∀r a0 a1,ru r [a0,a1] l=some (x r a0 a1)
theorem qD{l:List Char}{x:fJ→VC→VC→ba}(h:∀r a0 a1,ru r [a0,a1] l=some (x r a0 a1):=by intros;cbv):Zt (String.ofList l) x:=⟨l,rfl,h⟩
abbrev qE(s:String)(b:Type):=∀x,Zt s x→b
def Zu(s:String)(x:fJ→VC→VC→VC→ba):Prop:=∃l,s=String.ofList l∧∀r a0 a1 a2,ru r [a0,a1,a2] l=some (x r a0 a1 a2)
theorem eF3{l:List Char}{x:fJ→VC→VC→VC→ba}(h:∀r a0 a1 a2,ru r [a0,a1,a2] l=some (x r a0 a1 a2):=by intros;cbv):Zu (String.ofList l) x:=⟨l,rfl,h⟩
abbrev aF3(s:String)(b:Type):=∀x,Zu s x→b
end Go.Vm
