/- The value machine, W: the compiled copies, written in letters, and read back. -/
import Derived.Test.YtcelmhaoipbdiaaGreatDoorVmT
namespace Go.Vm
set_option linter.all false
inductive Rs where
 |mk (l:List Nat) (d:Nat) (k:cX) (s:List Nat)
abbrev Rd(α:Type):=Rs→Option (α×Rs)
section
variable {α β γ δ ε ζ η:Type}
def a1(c:α→β)(p:Rd α)(s:Rs):Option (β×Rs):=match p s with
 |some (a,s)=>some (c a,s)
 |none=>none
def a2(c:α→β→γ)(p:Rd α)(q:Rd β)(s:Rs):Option (γ×Rs):=match p s with
 |some (a,s)=>a1 (c a) q s
 |none=>none
def a3(c:α→β→γ→δ)(p:Rd α)(q:Rd β)(t:Rd γ)(s:Rs):Option (δ×Rs):=match p s with
 |some (a,s)=>a2 (c a) q t s
 |none=>none
def a4(c:α→β→γ→δ→ε)(p:Rd α)(q:Rd β)(t:Rd γ)(u:Rd δ)(s:Rs):Option (ε×Rs):=match p s with
 |some (a,s)=>a3 (c a) q t u s
 |none=>none
def a5(c:α→β→γ→δ→ε→ζ)(p:Rd α)(q:Rd β)(t:Rd γ)(u:Rd δ)(v:Rd ε)(s:Rs):Option (ζ×Rs):=match p s with
 |some (a,s)=>a4 (c a) q t u v s
 |none=>none
def a6(c:α→β→γ→δ→ε→ζ→η)(p:Rd α)(q:Rd β)(t:Rd γ)(u:Rd δ)(v:Rd ε)(x:Rd ζ)(s:Rs):Option (η×Rs):=match p s with
 |some (a,s)=>a5 (c a) q t u v x s
 |none=>none
def th(p:Rd α)(f:α→Rd β)(s:Rs):Option (β×Rs):=match p s with
 |some (a,s)=>f a s
 |none=>none
def pu(a:α)(s:Rs):Option (α×Rs):=some (a,s)
def no(_:Rs):Option (α×Rs):=none
def rS:Rd Nat
 |.mk (a::l) d k s=>some (a,.mk l d k s)
 |_=>none
def Wh:Nat→Nat→Rd Nat
 |0,a,s=>some (a,s)
 |n+1,a,s=>match rS s with
  |some (b,s)=>Wh n (62*a+b) s
  |none=>none
def rN(s:Rs):Option (Nat×Rs):=match rS s with
 |some (a,s)=>if a<48 then some (a,s) else if a<61 then a1 (· + (62*a-2928)) rS s else th rS (fun n=>Wh n 0) s
 |none=>none
def rL(p:Rd α):Nat→Rd (List α)
 |0,s=>some ([],s)
 |n+1,s=>match p s with
  |some (a,s)=>match rL p n s with
   |some (as,s)=>some (a::as,s)
   |none=>none
  |none=>none
def rl(p:Rd α):Rd (List α):=th rN (rL p)
def rB:Rd Bool:=a1 (· == 1) rS
def opt:Nat→Option Nat
 |0=>none
 |n+1=>some n
def rO:Rd (Option Nat):=a1 opt rN
def toZ(n:Nat):Int:=if n % 2=0 then (n / 2:Nat) else -(n / 2:Nat)
def rZ:Rd Int:=a1 toZ rN
abbrev fB:=(α:Type)→Nat→α→List α
def rR(r:fB)(p:Rd α):Rd (List α):=th rN fun n=>match n with
 |0=>a2 (r α) rN p
 |n+1=>rL p n
def nJ(r:fB):Rd Sh:=rR r rO
def rK:Rd IntKind:=a1 ([.i8,.i16,.i32,.i64,.u8,.u16,.u32,.u64].getD · .i64) rS
def OW:Rd V:=th rS fun n=>match n with
 |0=>a1 (.int .i64) rZ
 |1=>a1 .bool rB
 |2=>pu .b9
 |3=>a1 (.slice none · []) rN
 |4=>pu .fQ
 |5=>a1 (.fn · []) rN
 |6=>pu .fR
 |7=>pu .fS
 |8=>a1 (fun l=>.str (l.map UInt8.ofNat)) (rl rN)
 |9=>a2 .int rK rZ
 |_=>no
def rV(r:fB):Rd V
 |.mk (10::l) d k s=>a1 .agg (rR r OW) (.mk l d k s)
 |.mk (11::l) d k s=>a1 (.eI · 0) (rR r OW) (.mk l d k s)
 |s=>OW s
def rX(r:fB):Rd bp:=th rN fun n=>match n with
 |0=>a1 (fun n=>.c (.int .i64 n)) rZ
 |1=>a1 .c (rV r)
 |n+2=>pu (.t n)
def Wj(r:fB):Rd (Option bp):=th rS fun n=>match n with
 |0=>pu none
 |_=>a1 some (rX r)
def Wk:Rd jc:=a1 (fun n=>match n with|0=>.jJ|1=>.ay|n+2=>.loc n) rN
def ag8:Rd BinOp:=a1 ([.add,.sub,.mul,.quo,.rem,.and,.or,.xor,.shl,.shr,.andNot,.eql,.neq,.lss,.leq,.gtr,.geq].getD · .add) rS
def rUn:Rd UnOp:=a1 ([.neg,.xor,.not,.plus].getD · .not) rS
def OX(r:fB):Rd (List (Sh×bp)):=rl (a2 .mk (nJ r) (rX r))
def Wl(r:fB)(d:Nat):Nat→Rd VO
 |0=>a1 .mv (rX r)
 |1=>a3 .pick (rX r) (rX r) (rX r)
 |2=>a2 .obj (pu d) (rR r (rV r))
 |3=>a2 .box (pu d) (rX r)
 |4=>a2 .tP (nJ r) (rX r)
 |5=>a2 .tQ (nJ r) (rR r (rV r))
 |6=>pu .tR
 |7=>a6 .u6 rB (rl rN) (rV r) rB (rX r) (rX r)
 |8=>a6 .tS rB (rl rN) (nJ r) (rX r) (rX r) (rX r)
 |9=>a2 .build (rR r (rV r)) (rl (a3 (fun a b c=>(a,b,c)) rN rN (rX r)))
 |10=>a5 .lit rO (nJ r) (rR r (rV r)) rN (rl (a2 .mk rN (rX r)))
 |11=>a3 .load Wk rO (rX r)
 |12=>a4 .store Wk (nJ r) (rX r) (rX r)
 |13=>a2 .rJ rN (rX r)
 |14=>a1 .xv rN
 |15=>a1 .u7 (rX r)
 |16=>a3 .grow rN rN (rX r)
 |17=>a4 .tT rN rO (rX r) (rX r)
 |18=>a2 .u9 rB (rX r)
 |19=>a3 .tV rN (rX r) (rX r)
 |20=>a1 .sY (rX r)
 |21=>a3 .bin ag8 (rX r) (rX r)
 |22=>a3 .beq rB (rX r) (rX r)
 |23=>a4 .iu rB (rl rN) (rX r) (rX r)
 |24=>a2 .un rUn (rX r)
 |25=>a2 .conv rK (rX r)
 |26=>a2 .rM rN (rX r)
 |27=>a4 .nx rO rN (rX r) (rX r)
 |28=>a5 .idx rN rN rB (rX r) (rX r)
 |29=>a3 .field rN rO (rX r)
 |30=>a1 .len (rX r)
 |31=>a1 .tW (rX r)
 |32=>a6 .app rN rO (nJ r) rN (rX r) (rX r)
 |33=>a6 .sZ rN rN rO (nJ r) (rX r) (rX r)
 |34=>a2 .ext (rX r) rN
 |35=>a4 .call rB (rX r) (OX r) (rl (a2 .mk rN rN))
 |36=>a4 .vb rN rN rN (rX r)
 |37=>a2 .qE (rX r) (OX r)
 |38=>a3 .qF (rX r) (rl (a3 (fun a b c=>(a,b,c)) (nJ r) (nJ r) (rX r))) (rl rN)
 |39=>a5 .own (rX r) (rl (a3 (fun a b c=>(a,b,c)) (nJ r) (nJ r) (rX r))) (rl rN) rN rN
 |40=>a3 .qG (rX r) (OX r) rN
 |41=>a3 .s6 (pu d) (rR r (rV r)) (rX r)
 |42=>a4 .vd rN (rX r) (Wj r) (Wj r)
 |43=>a3 .mm rB (rX r) (rX r)
 |44=>a4 .tY rB (rX r) (rX r) (rX r)
 |45=>a2 .vg rN (rl (rX r))
 |46=>a3 .arr rN rN (rX r)
 |47=>a1 .tU (rX r)
 |_=>no
def rD:Nat→Rd (Option Nat)
 |0,.mk l d k s=>some (some (d+1),.mk l (d+1) k (s++[d+1]))
 |1,s=>match rN s with
  |some (n,.mk l _ k s)=>some (some n,.mk l n k (s++[n]))
  |none=>none
 |_,s=>some (none,s)
def OY(r:fB):Rd bA:=th rS fun t=>if t<48 then th (rD 0) fun d=>a1 (⟨d,·,none⟩) (Wl r (d.getD 0) t)
 else th (rD ((t-48) % 3)) fun d=>th (th rS (Wl r (d.getD 0))) fun o=>if t<51 then pu ⟨d,o,none⟩ else a2 (fun a b=>⟨d,o,some (a,b)⟩) rN rB
def rG(r:fB):Rd gI:=th rS fun n=>match n with
 |0=>a3 .norm rN rN rN
 |1=>a4 .nV rN rN rN rN
 |2=>a2 .freeze rN (nJ r)
 |3=>a4 .IN rN rN rN rN
 |4=>a2 .jd rN rN
 |5=>a3 .IP rN rN (nJ r)
 |6=>a3 .rP rN rN rN
 |7=>a2 .share rN (nJ r)
 |8=>a2 .IQ rN (rl (nJ r))
 |9=>a2 .E8 rN (rl (nJ r))
 |10=>a4 .vh rN rN rN rN
 |11=>a4 .zD rN rN rN rN
 |_=>a3 .zE rN rN (nJ r)
def aha(n:Nat):List Bool:=[n % 2==1,n / 2 % 2==1,n / 4 % 2==1,n / 8 % 2==1,n / 16==1]
def OZ:List Nat→List Bool→List Nat
 |a::as,true::bs=>a::OZ as bs
 |_::as,false::bs=>OZ as bs
 |_,_=>[]
def rE(f:Nat):Rd (List Nat)
 |.mk l d k s=>if f % 2=0 then rl rN (.mk l d k s) else a1 (fun bs=>OZ (k.e++s) (bs.flatMap aha)) (rL rS ((k.e.length+s.length+4) / 5)) (.mk l d k s)
def rKo(f:Nat):Rd (List Nat)
 |.mk l d k s=>if f / 2 % 2=0 then rl rN (.mk l d k s) else some (k.o,.mk l d k s)
def rKt(f:Nat):Rd (List Nat)
 |.mk l d k s=>if f / 4=0 then rl rN (.mk l d k s) else some (k.t,.mk l d k s)
def O0(s:Rs):Option (cX×Rs):=match th rS (fun f=>a3 .mk (rE f) (rKo f) (rKt f)) s with
 |some (k,.mk l d _ _)=>some (k,.mk l d k [])
 |none=>none
def DO(r:fB):Nat→Rd VC
 |0=>a2 (.region [] []) (rl (OY r)) O0
 |1=>a3 (.region []) (rl rN) (rl (OY r)) O0
 |_=>a4 .region (rl (rG r)) (rl rN) (rl (OY r)) O0
def uG(r:fB)(env:List VC):Nat→Rd VC
 |0=>no
 |n+1=>th rS fun t=>match t with
  |0=>pu .skip
  |1=>pu .ret
  |2=>pu .dead
  |3=>a1 .exit rN
  |4=>a2 .block rN (uG r env n)
  |5=>a2 .seq (uG r env n) (uG r env n)
  |6=>a3 .cond (rX r) (uG r env n) (uG r env n)
  |7=>a2 (fun c a=>.cond (.t c) a .skip) rN (uG r env n)
  |8=>DO r 0
  |9=>DO r 1
  |10=>DO r 2
  |11=>a2 .seq (DO r 0) (uG r env n)
  |12=>a2 .seq (DO r 1) (uG r env n)
  |13=>a2 .seq (DO r 2) (uG r env n)
  |14=>a3 (fun c i a=>.seq (.cond (.t c) .skip (.exit i)) a) rN rN (uG r env n)
  |15=>a1 (env.getD · .skip) rN
  |16=>a1 .A2 (rl (rG r))
  |_=>no
def ahe(r:fB):Rd rQ:=th rS fun n=>match n with
 |0=>a2 .t rN (nJ r)
 |_=>a3 .c rN rB (nJ r)
def rF(r:fB)(env:List VC):Rd bc:=a5 (fun n rs ds sp b=>⟨n,b,rs,ds,sp⟩) rN (rl (ahe r)) (rl rN) rO (uG r env 500)
end
def ix(c:Char):Nat:=if c.toNat<58 then c.toNat-48 else if c.toNat<91 then c.toNat-55 else c.toNat-61
def BL{α:Type}(p:Rd α)(l:List Char):Option α:=match p (.mk (l.map ix) 0 ⟨[],[],[]⟩ []) with
 |some (a,.mk [] _ _ _)=>some a
 |_=>none
def qm(r:fB)(env:List VC)(l:List Char):Option VC:=BL (uG r env 500) l
def qn(r:fB)(env:List VC)(l:List Char):Option bc:=BL (rF r env) l
def cC(s:String)(x:fB→VC):Prop:=∃l,s=String.ofList l∧∀r,qm r [] l=some (x r)
theorem cD{l:List Char}{x:fB→VC}(h:∀r,qm r [] l=some (x r)):cC (String.ofList l) x:=⟨l,rfl,h⟩
def Ka(s:String)(x:fB→VC→VC):Prop:=∃l,s=String.ofList l∧∀r a0,qm r [a0] l=some (x r a0)
theorem O1{l:List Char}{x:fB→VC→VC}(h:∀r a0,qm r [a0] l=some (x r a0)):Ka (String.ofList l) x:=⟨l,rfl,h⟩
def O2(s:String)(x:fB→VC→VC→VC):Prop:=∃l,s=String.ofList l∧∀r a0 a1,qm r [a0,a1] l=some (x r a0 a1)
theorem Wp{l:List Char}{x:fB→VC→VC→VC}(h:∀r a0 a1,qm r [a0,a1] l=some (x r a0 a1)):O2 (String.ofList l) x:=⟨l,rfl,h⟩
def tC3(s:String)(x:fB→VC→VC→VC→VC):Prop:=∃l,s=String.ofList l∧∀r a0 a1 a2,qm r [a0,a1,a2] l=some (x r a0 a1 a2)
theorem eC3{l:List Char}{x:fB→VC→VC→VC→VC}(h:∀r a0 a1 a2,qm r [a0,a1,a2] l=some (x r a0 a1 a2)):tC3 (String.ofList l) x:=⟨l,rfl,h⟩
def tC4(s:String)(x:fB→VC→VC→VC→VC→VC):Prop:=∃l,s=String.ofList l∧∀r a0 a1 a2 a3,qm r [a0,a1,a2,a3] l=some (x r a0 a1 a2 a3)
theorem eC4{l:List Char}{x:fB→VC→VC→VC→VC→VC}(h:∀r a0 a1 a2 a3,qm r [a0,a1,a2,a3] l=some (x r a0 a1 a2 a3)):tC4 (String.ofList l) x:=⟨l,rfl,h⟩
def tC5(s:String)(x:fB→VC→VC→VC→VC→VC→VC):Prop:=∃l,s=String.ofList l∧∀r a0 a1 a2 a3 a4,qm r [a0,a1,a2,a3,a4] l=some (x r a0 a1 a2 a3 a4)
theorem eC5{l:List Char}{x:fB→VC→VC→VC→VC→VC→VC}(h:∀r a0 a1 a2 a3 a4,qm r [a0,a1,a2,a3,a4] l=some (x r a0 a1 a2 a3 a4)):tC5 (String.ofList l) x:=⟨l,rfl,h⟩
def tC6(s:String)(x:fB→VC→VC→VC→VC→VC→VC→VC):Prop:=∃l,s=String.ofList l∧∀r a0 a1 a2 a3 a4 a5,qm r [a0,a1,a2,a3,a4,a5] l=some (x r a0 a1 a2 a3 a4 a5)
theorem eC6{l:List Char}{x:fB→VC→VC→VC→VC→VC→VC→VC}(h:∀r a0 a1 a2 a3 a4 a5,qm r [a0,a1,a2,a3,a4,a5] l=some (x r a0 a1 a2 a3 a4 a5)):tC6 (String.ofList l) x:=⟨l,rfl,h⟩
def tC7(s:String)(x:fB→VC→VC→VC→VC→VC→VC→VC→VC):Prop:=∃l,s=String.ofList l∧∀r a0 a1 a2 a3 a4 a5 a6,qm r [a0,a1,a2,a3,a4,a5,a6] l=some (x r a0 a1 a2 a3 a4 a5 a6)
theorem eC7{l:List Char}{x:fB→VC→VC→VC→VC→VC→VC→VC→VC}(h:∀r a0 a1 a2 a3 a4 a5 a6,qm r [a0,a1,a2,a3,a4,a5,a6] l=some (x r a0 a1 a2 a3 a4 a5 a6)):tC7 (String.ofList l) x:=⟨l,rfl,h⟩
def de(s:String)(x:fB→bc):Prop:=∃l,s=String.ofList l∧∀r,qn r [] l=some (x r)
theorem dh{l:List Char}{x:fB→bc}(h:∀r,qn r [] l=some (x r)):de (String.ofList l) x:=⟨l,rfl,h⟩
def dz(s:String)(x:fB→VC→bc):Prop:=∃l,s=String.ofList l∧∀r a0,qn r [a0] l=some (x r a0)
theorem dC{l:List Char}{x:fB→VC→bc}(h:∀r a0,qn r [a0] l=some (x r a0)):dz (String.ofList l) x:=⟨l,rfl,h⟩
def oY(s:String)(x:fB→VC→VC→bc):Prop:=∃l,s=String.ofList l∧∀r a0 a1,qn r [a0,a1] l=some (x r a0 a1)
theorem pQ{l:List Char}{x:fB→VC→VC→bc}(h:∀r a0 a1,qn r [a0,a1] l=some (x r a0 a1)):oY (String.ofList l) x:=⟨l,rfl,h⟩
def Wq(s:String)(x:fB→VC→VC→VC→bc):Prop:=∃l,s=String.ofList l∧∀r a0 a1 a2,qn r [a0,a1,a2] l=some (x r a0 a1 a2)
theorem eF3{l:List Char}{x:fB→VC→VC→VC→bc}(h:∀r a0 a1 a2,qn r [a0,a1,a2] l=some (x r a0 a1 a2)):Wq (String.ofList l) x:=⟨l,rfl,h⟩
def tF4(s:String)(x:fB→VC→VC→VC→VC→bc):Prop:=∃l,s=String.ofList l∧∀r a0 a1 a2 a3,qn r [a0,a1,a2,a3] l=some (x r a0 a1 a2 a3)
theorem eF4{l:List Char}{x:fB→VC→VC→VC→VC→bc}(h:∀r a0 a1 a2 a3,qn r [a0,a1,a2,a3] l=some (x r a0 a1 a2 a3)):tF4 (String.ofList l) x:=⟨l,rfl,h⟩
def tF5(s:String)(x:fB→VC→VC→VC→VC→VC→bc):Prop:=∃l,s=String.ofList l∧∀r a0 a1 a2 a3 a4,qn r [a0,a1,a2,a3,a4] l=some (x r a0 a1 a2 a3 a4)
theorem eF5{l:List Char}{x:fB→VC→VC→VC→VC→VC→bc}(h:∀r a0 a1 a2 a3 a4,qn r [a0,a1,a2,a3,a4] l=some (x r a0 a1 a2 a3 a4)):tF5 (String.ofList l) x:=⟨l,rfl,h⟩
def tF6(s:String)(x:fB→VC→VC→VC→VC→VC→VC→bc):Prop:=∃l,s=String.ofList l∧∀r a0 a1 a2 a3 a4 a5,qn r [a0,a1,a2,a3,a4,a5] l=some (x r a0 a1 a2 a3 a4 a5)
theorem eF6{l:List Char}{x:fB→VC→VC→VC→VC→VC→VC→bc}(h:∀r a0 a1 a2 a3 a4 a5,qn r [a0,a1,a2,a3,a4,a5] l=some (x r a0 a1 a2 a3 a4 a5)):tF6 (String.ofList l) x:=⟨l,rfl,h⟩
def tF7(s:String)(x:fB→VC→VC→VC→VC→VC→VC→VC→bc):Prop:=∃l,s=String.ofList l∧∀r a0 a1 a2 a3 a4 a5 a6,qn r [a0,a1,a2,a3,a4,a5,a6] l=some (x r a0 a1 a2 a3 a4 a5 a6)
theorem eF7{l:List Char}{x:fB→VC→VC→VC→VC→VC→VC→VC→bc}(h:∀r a0 a1 a2 a3 a4 a5 a6,qn r [a0,a1,a2,a3,a4,a5,a6] l=some (x r a0 a1 a2 a3 a4 a5 a6)):tF7 (String.ofList l) x:=⟨l,rfl,h⟩
end Go.Vm
