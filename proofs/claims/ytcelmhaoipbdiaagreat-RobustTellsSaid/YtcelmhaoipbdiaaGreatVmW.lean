/- The value machine, W: the compiled copies, written in letters, and read back. -/
import Derived.Test.YtcelmhaoipbdiaaGreatVmT
namespace Go.Vm
set_option linter.all false
inductive Rs where
 |mk (l:List Nat) (d:Nat) (k:dj) (s:List Nat)
abbrev Rd(α:Type):=Rs→Option (α×Rs)
section
variable {α β γ δ ε ζ η:Type}
def a1(c:α→β)(p:Rd α)(s:Rs):Option (β×Rs):=match p s with
 |some (a,s)=>some (c a,s)
 |none=>none
def a2(c:α→β→γ)(p:Rd α)(q:Rd β)(s:Rs):Option (γ×Rs):=match p s with
 |some (a,s)=>a1 (c a) q s
 |none=>none
def a3(c:α→β→γ→δ)(p:Rd α)(q:Rd β)(t:Rd γ)(s:Rs):Option (δ×Rs):=match p s with
 |some (a,s)=>a2 (c a) q t s
 |none=>none
def a4(c:α→β→γ→δ→ε)(p:Rd α)(q:Rd β)(t:Rd γ)(u:Rd δ)(s:Rs):Option (ε×Rs):=match p s with
 |some (a,s)=>a3 (c a) q t u s
 |none=>none
def a5(c:α→β→γ→δ→ε→ζ)(p:Rd α)(q:Rd β)(t:Rd γ)(u:Rd δ)(v:Rd ε)(s:Rs):Option (ζ×Rs):=match p s with
 |some (a,s)=>a4 (c a) q t u v s
 |none=>none
def a6(c:α→β→γ→δ→ε→ζ→η)(p:Rd α)(q:Rd β)(t:Rd γ)(u:Rd δ)(v:Rd ε)(x:Rd ζ)(s:Rs):Option (η×Rs):=match p s with
 |some (a,s)=>a5 (c a) q t u v x s
 |none=>none
def th(p:Rd α)(f:α→Rd β)(s:Rs):Option (β×Rs):=match p s with
 |some (a,s)=>f a s
 |none=>none
def pu(a:α)(s:Rs):Option (α×Rs):=some (a,s)
def no(_:Rs):Option (α×Rs):=none
def rS:Rd Nat
 |.mk (a::l) d k s=>some (a,.mk l d k s)
 |_=>none
def ZY:Nat→Nat→Rd Nat
 |0,a,s=>some (a,s)
 |n+1,a,s=>match rS s with
  |some (b,s)=>ZY n (62*a+b) s
  |none=>none
def rN(s:Rs):Option (Nat×Rs):=match rS s with
 |some (a,s)=>if a<48 then some (a,s) else if a<61 then a1 (· + (62*a-2928)) rS s else th rS (fun n=>ZY n 0) s
 |none=>none
def rL(p:Rd α):Nat→Rd (List α)
 |0,s=>some ([],s)
 |n+1,s=>match p s with
  |some (a,s)=>match rL p n s with
   |some (as,s)=>some (a::as,s)
   |none=>none
  |none=>none
def rl(p:Rd α):Rd (List α):=th rN (rL p)
def rB:Rd Bool:=a1 (· == 1) rS
def opt:Nat→Option Nat
 |0=>none
 |n+1=>some n
def rO:Rd (Option Nat):=a1 opt rN
def toZ(n:Nat):Int:=if n % 2=0 then (n / 2:Nat) else -(n / 2:Nat)
def rZ:Rd Int:=a1 toZ rN
abbrev gj:=(α:Type)→Nat→α→List α
def rR(r:gj)(p:Rd α):Rd (List α):=th rN fun n=>match n with
 |0=>a2 (r α) rN p
 |n+1=>rL p n
def oY(r:gj):Rd Sh:=rR r rO
def rK:Rd IntKind:=a1 ([.i8,.i16,.i32,.i64,.u8,.u16,.u32,.u64].getD · .i64) rS
def R3:Rd V:=th rS fun n=>match n with
 |0=>a1 (.int .i64) rZ
 |1=>a1 .bool rB
 |2=>pu .bU
 |3=>a1 (.slice none · []) rN
 |4=>pu .gK
 |5=>a1 (.fn · []) rN
 |6=>pu .gL
 |7=>pu .gM
 |8=>a1 (fun l=>.str (l.map UInt8.ofNat)) (rl rN)
 |9=>a2 .int rK rZ
 |_=>no
def rV(r:gj):Rd V
 |.mk (10::l) d k s=>a1 .agg (rR r R3) (.mk l d k s)
 |.mk (11::l) d k s=>a1 (.e8 · 0) (rR r R3) (.mk l d k s)
 |s=>R3 s
def rX(r:gj):Rd bA:=th rN fun n=>match n with
 |0=>a1 (fun n=>.c (.int .i64 n)) rZ
 |1=>a1 .c (rV r)
 |n+2=>pu (.t n)
def Z0(r:gj):Rd (Option bA):=th rS fun n=>match n with
 |0=>pu none
 |_=>a1 some (rX r)
def Z1:Rd j8:=a1 (fun n=>match n with|0=>.kN|1=>.aD|n+2=>.loc n) rN
def amk:Rd BinOp:=a1 ([.add,.sub,.mul,.quo,.rem,.and,.or,.xor,.shl,.shr,.andNot,.eql,.neq,.lss,.leq,.gtr,.geq].getD · .add) rS
def rUn:Rd UnOp:=a1 ([.neg,.xor,.not,.plus].getD · .not) rS
def R4(r:gj):Rd (List (Sh×bA)):=rl (a2 .mk (oY r) (rX r))
def Z2(r:gj)(d:Nat):Nat→Rd VO
 |0=>a1 .mv (rX r)
 |1=>a3 .pick (rX r) (rX r) (rX r)
 |2=>a2 .obj (pu d) (rR r (rV r))
 |3=>a2 .box (pu d) (rX r)
 |4=>a2 .vr (oY r) (rX r)
 |5=>a2 .vt (oY r) (rR r (rV r))
 |6=>pu .vu
 |7=>a6 .wM rB (rl rN) (rV r) rB (rX r) (rX r)
 |8=>a6 .vv rB (rl rN) (oY r) (rX r) (rX r) (rX r)
 |9=>a2 .build (rR r (rV r)) (rl (a3 (fun a b c=>(a,b,c)) rN rN (rX r)))
 |10=>a5 .lit rO (oY r) (rR r (rV r)) rN (rl (a2 .mk rN (rX r)))
 |11=>a3 .load Z1 rO (rX r)
 |12=>a4 .store Z1 (oY r) (rX r) (rX r)
 |13=>a2 .tz rN (rX r)
 |14=>a1 .zL rN
 |15=>a1 .wN (rX r)
 |16=>a3 .grow rN rN (rX r)
 |17=>a4 .vw rN rO (rX r) (rX r)
 |18=>a2 .wO rB (rX r)
 |19=>a3 .vy rN (rX r) (rX r)
 |20=>a1 .uz (rX r)
 |21=>a3 .bin amk (rX r) (rX r)
 |22=>a3 .beq rB (rX r) (rX r)
 |23=>a4 .gA rB (rl rN) (rX r) (rX r)
 |24=>a2 .un rUn (rX r)
 |25=>a2 .conv rK (rX r)
 |26=>a2 .tA rN (rX r)
 |27=>a4 .oJ rO rN (rX r) (rX r)
 |28=>a5 .idx rN rN rB (rX r) (rX r)
 |29=>a3 .field rN rO (rX r)
 |30=>a1 .len (rX r)
 |31=>a1 .vz (rX r)
 |32=>a6 .app rN rO (oY r) rN (rX r) (rX r)
 |33=>a6 .uA rN rN rO (oY r) (rX r) (rX r)
 |34=>a2 .ext (rX r) rN
 |35=>a4 .call rB (rX r) (R4 r) (rl (a2 .mk rN rN))
 |36=>a4 .wP rN rN rN (rX r)
 |37=>a2 .sJ (rX r) (R4 r)
 |38=>a3 .sK (rX r) (rl (a3 (fun a b c=>(a,b,c)) (oY r) (oY r) (rX r))) (rl rN)
 |39=>a5 .own (rX r) (rl (a3 (fun a b c=>(a,b,c)) (oY r) (oY r) (rX r))) (rl rN) rN rN
 |40=>a3 .sL (rX r) (R4 r) rN
 |41=>a3 .uB (pu d) (rR r (rV r)) (rX r)
 |42=>a4 .wQ rN (rX r) (Z0 r) (Z0 r)
 |43=>a3 .mm rB (rX r) (rX r)
 |44=>a4 .vB rB (rX r) (rX r) (rX r)
 |45=>a2 .wR rN (rl (rX r))
 |46=>a3 .arr rN rN (rX r)
 |47=>a1 .vx (rX r)
 |_=>no
def rD:Nat→Rd (Option Nat)
 |0,.mk l d k s=>some (some (d+1),.mk l (d+1) k (s++[d+1]))
 |1,s=>match rN s with
  |some (n,.mk l _ k s)=>some (some n,.mk l n k (s++[n]))
  |none=>none
 |_,s=>some (none,s)
def R5(r:gj):Rd bK:=th rS fun t=>if t<48 then th (rD 0) fun d=>a1 (⟨d,·,none⟩) (Z2 r (d.getD 0) t)
 else th (rD ((t-48) % 3)) fun d=>th (th rS (Z2 r (d.getD 0))) fun o=>if t<51 then pu ⟨d,o,none⟩ else a2 (fun a b=>⟨d,o,some (a,b)⟩) rN rB
def rG(r:gj):Rd iv:=th rS fun n=>match n with
 |0=>a3 .norm rN rN rN
 |1=>a4 .px rN rN rN rN
 |2=>a2 .freeze rN (oY r)
 |3=>a4 .K3 rN rN rN rN
 |4=>a2 .jR rN rN
 |5=>a3 .K4 rN rN (oY r)
 |6=>a3 .tB rN rN rN
 |7=>a2 .share rN (oY r)
 |8=>a2 .K5 rN (rl (oY r))
 |9=>a2 .CW rN (rl (oY r))
 |10=>a4 .wS rN rN rN rN
 |11=>a4 .Bj rN rN rN rN
 |_=>a3 .Bk rN rN (oY r)
def amm(n:Nat):List Bool:=[n % 2==1,n / 2 % 2==1,n / 4 % 2==1,n / 8 % 2==1,n / 16==1]
def R6:List Nat→List Bool→List Nat
 |a::as,true::bs=>a::R6 as bs
 |_::as,false::bs=>R6 as bs
 |_,_=>[]
def rE(f:Nat):Rd (List Nat)
 |.mk l d k s=>if f % 2=0 then rl rN (.mk l d k s) else a1 (fun bs=>R6 (k.e++s) (bs.flatMap amm)) (rL rS ((k.e.length+s.length+4) / 5)) (.mk l d k s)
def rKo(f:Nat):Rd (List Nat)
 |.mk l d k s=>if f / 2 % 2=0 then rl rN (.mk l d k s) else some (k.o,.mk l d k s)
def rKt(f:Nat):Rd (List Nat)
 |.mk l d k s=>if f / 4=0 then rl rN (.mk l d k s) else some (k.t,.mk l d k s)
def R7(s:Rs):Option (dj×Rs):=match th rS (fun f=>a3 .mk (rE f) (rKo f) (rKt f)) s with
 |some (k,.mk l d _ _)=>some (k,.mk l d k [])
 |none=>none
def FT(r:gj):Nat→Rd VC
 |0=>a2 (.region [] []) (rl (R5 r)) R7
 |1=>a3 (.region []) (rl rN) (rl (R5 r)) R7
 |_=>a4 .region (rl (rG r)) (rl rN) (rl (R5 r)) R7
def we(r:gj)(env:List VC):Nat→Rd VC
 |0=>no
 |n+1=>th rS fun t=>match t with
  |0=>pu .skip
  |1=>pu .ret
  |2=>pu .dead
  |3=>a1 .exit rN
  |4=>a2 .block rN (we r env n)
  |5=>a2 .seq (we r env n) (we r env n)
  |6=>a3 .cond (rX r) (we r env n) (we r env n)
  |7=>a2 (fun c a=>.cond (.t c) a .skip) rN (we r env n)
  |8=>FT r 0
  |9=>FT r 1
  |10=>FT r 2
  |11=>a2 .seq (FT r 0) (we r env n)
  |12=>a2 .seq (FT r 1) (we r env n)
  |13=>a2 .seq (FT r 2) (we r env n)
  |14=>a3 (fun c i a=>.seq (.cond (.t c) .skip (.exit i)) a) rN rN (we r env n)
  |15=>a1 (env.getD · .skip) rN
  |16=>a1 .CX (rl (rG r))
  |_=>no
def amq(r:gj):Rd tC:=th rS fun n=>match n with
 |0=>a2 .t rN (oY r)
 |_=>a3 .c rN rB (oY r)
def rF(r:gj)(env:List VC):Rd bc:=a5 (fun n rs ds sp b=>⟨n,b,rs,ds,sp⟩) rN (rl (amq r)) (rl rN) rO (we r env 500)
end
def ix(c:Char):Nat:=if c.toNat<58 then c.toNat-48 else if c.toNat<91 then c.toNat-55 else c.toNat-61
def yL{α:Type}(p:Rd α)(l:List Char):Option α:=match p (.mk (l.map ix) 0 ⟨[],[],[]⟩ []) with
 |some (a,.mk [] _ _ _)=>some a
 |_=>none
def se(r:gj)(env:List VC)(l:List Char):Option VC:=yL (we r env 500) l
def sf(r:gj)(env:List VC)(l:List Char):Option bc:=yL (rF r env) l
def cc(s:String)(x:gj→VC):Prop:=∃l,s=String.ofList l∧∀r,se r [] l=some (x r)
theorem cd{l:List Char}{x:gj→VC}(h:∀r,se r [] l=some (x r)):cc (String.ofList l) x:=⟨l,rfl,h⟩
def B4(s:String)(x:gj→VC→VC):Prop:=∃l,s=String.ofList l∧∀r a0,se r [a0] l=some (x r a0)
theorem DL{l:List Char}{x:gj→VC→VC}(h:∀r a0,se r [a0] l=some (x r a0)):B4 (String.ofList l) x:=⟨l,rfl,h⟩
def IQ(s:String)(x:gj→VC→VC→VC):Prop:=∃l,s=String.ofList l∧∀r a0 a1,se r [a0,a1] l=some (x r a0 a1)
theorem My{l:List Char}{x:gj→VC→VC→VC}(h:∀r a0 a1,se r [a0,a1] l=some (x r a0 a1)):IQ (String.ofList l) x:=⟨l,rfl,h⟩
def tC3(s:String)(x:gj→VC→VC→VC→VC):Prop:=∃l,s=String.ofList l∧∀r a0 a1 a2,se r [a0,a1,a2] l=some (x r a0 a1 a2)
theorem eC3{l:List Char}{x:gj→VC→VC→VC→VC}(h:∀r a0 a1 a2,se r [a0,a1,a2] l=some (x r a0 a1 a2)):tC3 (String.ofList l) x:=⟨l,rfl,h⟩
def tC4(s:String)(x:gj→VC→VC→VC→VC→VC):Prop:=∃l,s=String.ofList l∧∀r a0 a1 a2 a3,se r [a0,a1,a2,a3] l=some (x r a0 a1 a2 a3)
theorem eC4{l:List Char}{x:gj→VC→VC→VC→VC→VC}(h:∀r a0 a1 a2 a3,se r [a0,a1,a2,a3] l=some (x r a0 a1 a2 a3)):tC4 (String.ofList l) x:=⟨l,rfl,h⟩
def tC5(s:String)(x:gj→VC→VC→VC→VC→VC→VC):Prop:=∃l,s=String.ofList l∧∀r a0 a1 a2 a3 a4,se r [a0,a1,a2,a3,a4] l=some (x r a0 a1 a2 a3 a4)
theorem eC5{l:List Char}{x:gj→VC→VC→VC→VC→VC→VC}(h:∀r a0 a1 a2 a3 a4,se r [a0,a1,a2,a3,a4] l=some (x r a0 a1 a2 a3 a4)):tC5 (String.ofList l) x:=⟨l,rfl,h⟩
def tC6(s:String)(x:gj→VC→VC→VC→VC→VC→VC→VC):Prop:=∃l,s=String.ofList l∧∀r a0 a1 a2 a3 a4 a5,se r [a0,a1,a2,a3,a4,a5] l=some (x r a0 a1 a2 a3 a4 a5)
theorem eC6{l:List Char}{x:gj→VC→VC→VC→VC→VC→VC→VC}(h:∀r a0 a1 a2 a3 a4 a5,se r [a0,a1,a2,a3,a4,a5] l=some (x r a0 a1 a2 a3 a4 a5)):tC6 (String.ofList l) x:=⟨l,rfl,h⟩
def tC7(s:String)(x:gj→VC→VC→VC→VC→VC→VC→VC→VC):Prop:=∃l,s=String.ofList l∧∀r a0 a1 a2 a3 a4 a5 a6,se r [a0,a1,a2,a3,a4,a5,a6] l=some (x r a0 a1 a2 a3 a4 a5 a6)
theorem eC7{l:List Char}{x:gj→VC→VC→VC→VC→VC→VC→VC→VC}(h:∀r a0 a1 a2 a3 a4 a5 a6,se r [a0,a1,a2,a3,a4,a5,a6] l=some (x r a0 a1 a2 a3 a4 a5 a6)):tC7 (String.ofList l) x:=⟨l,rfl,h⟩
def de(s:String)(x:gj→bc):Prop:=∃l,s=String.ofList l∧∀r,sf r [] l=some (x r)
theorem dg{l:List Char}{x:gj→bc}(h:∀r,sf r [] l=some (x r)):de (String.ofList l) x:=⟨l,rfl,h⟩
def cZ(s:String)(x:gj→VC→bc):Prop:=∃l,s=String.ofList l∧∀r a0,sf r [a0] l=some (x r a0)
theorem c8{l:List Char}{x:gj→VC→bc}(h:∀r a0,sf r [a0] l=some (x r a0)):cZ (String.ofList l) x:=⟨l,rfl,h⟩
def oZ(s:String)(x:gj→VC→VC→bc):Prop:=∃l,s=String.ofList l∧∀r a0 a1,sf r [a0,a1] l=some (x r a0 a1)
theorem pO{l:List Char}{x:gj→VC→VC→bc}(h:∀r a0 a1,sf r [a0,a1] l=some (x r a0 a1)):oZ (String.ofList l) x:=⟨l,rfl,h⟩
def Mz(s:String)(x:gj→VC→VC→VC→bc):Prop:=∃l,s=String.ofList l∧∀r a0 a1 a2,sf r [a0,a1,a2] l=some (x r a0 a1 a2)
theorem R8{l:List Char}{x:gj→VC→VC→VC→bc}(h:∀r a0 a1 a2,sf r [a0,a1,a2] l=some (x r a0 a1 a2)):Mz (String.ofList l) x:=⟨l,rfl,h⟩
def tF4(s:String)(x:gj→VC→VC→VC→VC→bc):Prop:=∃l,s=String.ofList l∧∀r a0 a1 a2 a3,sf r [a0,a1,a2,a3] l=some (x r a0 a1 a2 a3)
theorem eF4{l:List Char}{x:gj→VC→VC→VC→VC→bc}(h:∀r a0 a1 a2 a3,sf r [a0,a1,a2,a3] l=some (x r a0 a1 a2 a3)):tF4 (String.ofList l) x:=⟨l,rfl,h⟩
def tF5(s:String)(x:gj→VC→VC→VC→VC→VC→bc):Prop:=∃l,s=String.ofList l∧∀r a0 a1 a2 a3 a4,sf r [a0,a1,a2,a3,a4] l=some (x r a0 a1 a2 a3 a4)
theorem eF5{l:List Char}{x:gj→VC→VC→VC→VC→VC→bc}(h:∀r a0 a1 a2 a3 a4,sf r [a0,a1,a2,a3,a4] l=some (x r a0 a1 a2 a3 a4)):tF5 (String.ofList l) x:=⟨l,rfl,h⟩
def tF6(s:String)(x:gj→VC→VC→VC→VC→VC→VC→bc):Prop:=∃l,s=String.ofList l∧∀r a0 a1 a2 a3 a4 a5,sf r [a0,a1,a2,a3,a4,a5] l=some (x r a0 a1 a2 a3 a4 a5)
theorem eF6{l:List Char}{x:gj→VC→VC→VC→VC→VC→VC→bc}(h:∀r a0 a1 a2 a3 a4 a5,sf r [a0,a1,a2,a3,a4,a5] l=some (x r a0 a1 a2 a3 a4 a5)):tF6 (String.ofList l) x:=⟨l,rfl,h⟩
def tF7(s:String)(x:gj→VC→VC→VC→VC→VC→VC→VC→bc):Prop:=∃l,s=String.ofList l∧∀r a0 a1 a2 a3 a4 a5 a6,sf r [a0,a1,a2,a3,a4,a5,a6] l=some (x r a0 a1 a2 a3 a4 a5 a6)
theorem eF7{l:List Char}{x:gj→VC→VC→VC→VC→VC→VC→VC→bc}(h:∀r a0 a1 a2 a3 a4 a5 a6,sf r [a0,a1,a2,a3,a4,a5,a6] l=some (x r a0 a1 a2 a3 a4 a5 a6)):tF7 (String.ofList l) x:=⟨l,rfl,h⟩
end Go.Vm
