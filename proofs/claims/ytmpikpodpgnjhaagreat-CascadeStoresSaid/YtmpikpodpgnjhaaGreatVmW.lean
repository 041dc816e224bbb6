/- The value machine, W: the compiled copies, written in letters, and read back. -/
import Derived.Test.YtmpikpodpgnjhaaGreatVmT
namespace Go.Vm
set_option linter.all false
inductive Rs where
 |mk (l:List Nat) (d:Nat) (k:cR) (s:List Nat)
abbrev Rd(α:Type):=Rs→Option (α×Rs)
section
variable {α β γ δ ε ζ η:Type}
def a1(c:α→β)(p:Rd α)(s:Rs):Option (β×Rs):=match p s with
 |some (a,s)=>some (c a,s)
 |none=>none
def a2(c:α→β→γ)(p:Rd α)(q:Rd β)(s:Rs):Option (γ×Rs):=match p s with
 |some (a,s)=>a1 (c a) q s
 |none=>none
def a3(c:α→β→γ→δ)(p:Rd α)(q:Rd β)(t:Rd γ)(s:Rs):Option (δ×Rs):=match p s with
 |some (a,s)=>a2 (c a) q t s
 |none=>none
def a4(c:α→β→γ→δ→ε)(p:Rd α)(q:Rd β)(t:Rd γ)(u:Rd δ)(s:Rs):Option (ε×Rs):=match p s with
 |some (a,s)=>a3 (c a) q t u s
 |none=>none
def a5(c:α→β→γ→δ→ε→ζ)(p:Rd α)(q:Rd β)(t:Rd γ)(u:Rd δ)(v:Rd ε)(s:Rs):Option (ζ×Rs):=match p s with
 |some (a,s)=>a4 (c a) q t u v s
 |none=>none
def a6(c:α→β→γ→δ→ε→ζ→η)(p:Rd α)(q:Rd β)(t:Rd γ)(u:Rd δ)(v:Rd ε)(x:Rd ζ)(s:Rs):Option (η×Rs):=match p s with
 |some (a,s)=>a5 (c a) q t u v x s
 |none=>none
def th(p:Rd α)(f:α→Rd β)(s:Rs):Option (β×Rs):=match p s with
 |some (a,s)=>f a s
 |none=>none
def pu(a:α)(s:Rs):Option (α×Rs):=some (a,s)
def no(_:Rs):Option (α×Rs):=none
def rS:Rd Nat
 |.mk (a::l) d k s=>some (a,.mk l d k s)
 |_=>none
def Q2:Nat→Nat→Rd Nat
 |0,a,s=>some (a,s)
 |n+1,a,s=>match rS s with
  |some (b,s)=>Q2 n (62*a+b) s
  |none=>none
def rN(s:Rs):Option (Nat×Rs):=match rS s with
 |some (a,s)=>if a<48 then some (a,s) else if a<61 then a1 (· + (62*a-2928)) rS s else th rS (fun n=>Q2 n 0) s
 |none=>none
def rL(p:Rd α):Nat→Rd (List α)
 |0,s=>some ([],s)
 |n+1,s=>match p s with
  |some (a,s)=>match rL p n s with
   |some (as,s)=>some (a::as,s)
   |none=>none
  |none=>none
def rl(p:Rd α):Rd (List α):=th rN (rL p)
def rB:Rd Bool:=a1 (· == 1) rS
def opt:Nat→Option Nat
 |0=>none
 |n+1=>some n
def rO:Rd (Option Nat):=a1 opt rN
def toZ(n:Nat):Int:=if n % 2=0 then (n / 2:Nat) else -(n / 2:Nat)
def rZ:Rd Int:=a1 toZ rN
abbrev iJ:=(α:Type)→Nat→α→List α
def rR(r:iJ)(p:Rd α):Rd (List α):=th rN fun n=>match n with
 |0=>a2 (r α) rN p
 |n+1=>rL p n
def ov(r:iJ):Rd Sh:=rR r rO
def rK:Rd IntKind:=a1 ([.i8,.i16,.i32,.i64,.u8,.u16,.u32,.u64].getD · .i64) rS
def Q4:Rd V:=th rS fun n=>match n with
 |0=>a1 (.int .i64) rZ
 |1=>a1 .bool rB
 |2=>pu .bW
 |3=>a1 (.slice none · []) rN
 |4=>pu .ft
 |5=>a1 (.fn · []) rN
 |6=>pu .fu
 |7=>pu .fw
 |8=>a1 (fun l=>.str (l.map UInt8.ofNat)) (rl rN)
 |9=>a2 .int rK rZ
 |_=>no
def rV(r:iJ):Rd V
 |.mk (10::l) d k s=>a1 .agg (rR r Q4) (.mk l d k s)
 |s=>Q4 s
def rX(r:iJ):Rd bj:=th rN fun n=>match n with
 |0=>a1 (fun n=>.c (.int .i64 n)) rZ
 |1=>a1 .c (rV r)
 |n+2=>pu (.t n)
def Q5(r:iJ):Rd (Option bj):=th rS fun n=>match n with
 |0=>pu none
 |_=>a1 some (rX r)
def Q6:Rd iQ:=a1 (fun n=>match n with|0=>.jQ|1=>.ay|n+2=>.loc n) rN
def abJ:Rd BinOp:=a1 ([.add,.sub,.mul,.quo,.rem,.and,.or,.xor,.shl,.shr,.andNot,.eql,.neq,.lss,.leq,.gtr,.geq].getD · .add) rS
def rUn:Rd UnOp:=a1 ([.neg,.xor,.not,.plus].getD · .not) rS
def F5(r:iJ):Rd (List (Sh×bj)):=rl (a2 .mk (ov r) (rX r))
def Q7(r:iJ)(d:Nat):Nat→Rd VO
 |0=>a1 .mv (rX r)
 |1=>a3 .pick (rX r) (rX r) (rX r)
 |2=>a2 .obj (pu d) (rR r (rV r))
 |3=>a2 .box (pu d) (rX r)
 |4=>a2 .rM (ov r) (rX r)
 |5=>a2 .rP (ov r) (rR r (rV r))
 |6=>pu .rQ
 |7=>a6 .tp rB (rl rN) (rV r) rB (rX r) (rX r)
 |8=>a6 .rT rB (rl rN) (ov r) (rX r) (rX r) (rX r)
 |9=>a2 .build (rR r (rV r)) (rl (a3 (fun a b c=>(a,b,c)) rN rN (rX r)))
 |10=>a5 .lit rO (ov r) (rR r (rV r)) rN (rl (a2 .mk rN (rX r)))
 |11=>a3 .load Q6 rO (rX r)
 |12=>a4 .store Q6 (ov r) (rX r) (rX r)
 |13=>a2 .qJ rN (rX r)
 |14=>a1 .vt rN
 |15=>a1 .tq (rX r)
 |16=>a3 .grow rN rN (rX r)
 |17=>a4 .rU rN rO (rX r) (rX r)
 |18=>a2 .tr rB (rX r)
 |19=>a3 .rW rN (rX r) (rX r)
 |20=>a1 .rY (rX r)
 |21=>a3 .bin abJ (rX r) (rX r)
 |22=>a3 .beq rB (rX r) (rX r)
 |23=>a4 .iR rB (rl rN) (rX r) (rX r)
 |24=>a2 .un rUn (rX r)
 |25=>a2 .conv rK (rX r)
 |26=>a2 .r0 rN (rX r)
 |27=>a4 .nA rO rN (rX r) (rX r)
 |28=>a5 .idx rN rN rB (rX r) (rX r)
 |29=>a3 .field rN rO (rX r)
 |30=>a1 .len (rX r)
 |31=>a1 .r7 (rX r)
 |32=>a6 .app rN rO (ov r) rN (rX r) (rX r)
 |33=>a5 .qK rN rN (ov r) (rX r) (rX r)
 |34=>a2 .ext (rX r) rN
 |35=>a4 .call rB (rX r) (F5 r) (rl (a2 .mk rN rN))
 |36=>a4 .tu rN rN rN (rX r)
 |37=>a2 .pc (rX r) (F5 r)
 |38=>a3 .pd (rX r) (rl (a3 (fun a b c=>(a,b,c)) (ov r) (ov r) (rX r))) (rl rN)
 |39=>a4 .own (rX r) (F5 r) rN rN
 |40=>a3 .pe (rX r) (F5 r) rN
 |41=>a3 .qL (pu d) (rR r (rV r)) (rX r)
 |42=>a4 .tv rN (rX r) (Q5 r) (Q5 r)
 |43=>a3 .mm rB (rX r) (rX r)
 |44=>a4 .r9 rB (rX r) (rX r) (rX r)
 |45=>a2 .tw rN (rl (rX r))
 |_=>no
def rD:Nat→Rd (Option Nat)
 |0,.mk l d k s=>some (some (d+1),.mk l (d+1) k (s++[d+1]))
 |1,s=>match rN s with
  |some (n,.mk l _ k s)=>some (some n,.mk l n k (s++[n]))
  |none=>none
 |_,s=>some (none,s)
def Kr(r:iJ):Rd bN:=th rS fun t=>if t<48 then th (rD 0) fun d=>a1 (⟨d,·,none⟩) (Q7 r (d.getD 0) t)
 else th (rD ((t-48) % 3)) fun d=>th (th rS (Q7 r (d.getD 0))) fun o=>if t<51 then pu ⟨d,o,none⟩ else a2 (fun a b=>⟨d,o,some (a,b)⟩) rN rB
def rG(r:iJ):Rd hY:=th rS fun n=>match n with
 |0=>a3 .norm rN rN rN
 |1=>a4 .nB rN rN rN rN
 |2=>a2 .freeze rN (ov r)
 |3=>a4 .EE rN rN rN rN
 |4=>a2 .iS rN rN
 |5=>a3 .EF rN rN (ov r)
 |6=>a3 .p9 rN rN rN
 |7=>a2 .share rN (ov r)
 |8=>a2 .EG rN (rl (ov r))
 |_=>a2 .BM rN (rl (ov r))
def abL(n:Nat):List Bool:=[n % 2==1,n / 2 % 2==1,n / 4 % 2==1,n / 8 % 2==1,n / 16==1]
def Ks:List Nat→List Bool→List Nat
 |a::as,true::bs=>a::Ks as bs
 |_::as,false::bs=>Ks as bs
 |_,_=>[]
def rE(f:Nat):Rd (List Nat)
 |.mk l d k s=>if f % 2=0 then rl rN (.mk l d k s) else a1 (fun bs=>Ks (k.e++s) (bs.flatMap abL)) (rL rS ((k.e.length+s.length+4) / 5)) (.mk l d k s)
def rKo(f:Nat):Rd (List Nat)
 |.mk l d k s=>if f / 2 % 2=0 then rl rN (.mk l d k s) else some (k.o,.mk l d k s)
def rKt(f:Nat):Rd (List Nat)
 |.mk l d k s=>if f / 4=0 then rl rN (.mk l d k s) else some (k.t,.mk l d k s)
def Kt(s:Rs):Option (cR×Rs):=match th rS (fun f=>a3 .mk (rE f) (rKo f) (rKt f)) s with
 |some (k,.mk l d _ _)=>some (k,.mk l d k [])
 |none=>none
def A5(r:iJ):Nat→Rd VC
 |0=>a2 (.region [] []) (rl (Kr r)) Kt
 |1=>a3 (.region []) (rl rN) (rl (Kr r)) Kt
 |_=>a4 .region (rl (rG r)) (rl rN) (rl (Kr r)) Kt
def sV(r:iJ)(env:List VC):Nat→Rd VC
 |0=>no
 |n+1=>th rS fun t=>match t with
  |0=>pu .skip
  |1=>pu .ret
  |2=>pu .dead
  |3=>a1 .exit rN
  |4=>a2 .block rN (sV r env n)
  |5=>a2 .seq (sV r env n) (sV r env n)
  |6=>a3 .cond (rX r) (sV r env n) (sV r env n)
  |7=>a2 (fun c a=>.cond (.t c) a .skip) rN (sV r env n)
  |8=>A5 r 0
  |9=>A5 r 1
  |10=>A5 r 2
  |11=>a2 .seq (A5 r 0) (sV r env n)
  |12=>a2 .seq (A5 r 1) (sV r env n)
  |13=>a2 .seq (A5 r 2) (sV r env n)
  |14=>a3 (fun c i a=>.seq (.cond (.t c) .skip (.exit i)) a) rN rN (sV r env n)
  |15=>a1 (env.getD · .skip) rN
  |16=>a1 .yi (rl (rG r))
  |_=>no
def abP(r:iJ):Rd qa:=th rS fun n=>match n with
 |0=>a2 .t rN (ov r)
 |_=>a3 .c rN rB (ov r)
def rF(r:iJ)(env:List VC):Rd ba:=a5 (fun n rs ds sp b=>⟨n,b,rs,ds,sp⟩) rN (rl (abP r)) (rl rN) rO (sV r env 500)
end
def ix(c:Char):Nat:=if c.toNat<58 then c.toNat-48 else if c.toNat<91 then c.toNat-55 else c.toNat-61
def xA{α:Type}(p:Rd α)(l:List Char):Option α:=match p (.mk (l.map ix) 0 ⟨[],[],[]⟩ []) with
 |some (a,.mk [] _ _ _)=>some a
 |_=>none
def xB(r:iJ)(env:List VC)(l:List Char):Option VC:=xA (sV r env 500) l
def xC(r:iJ)(env:List VC)(l:List Char):Option ba:=xA (rF r env) l
def cC(s:String)(x:iJ→VC):Prop:=∃l,s=String.ofList l∧∀r,xB r [] l=some (x r)
theorem cE{l:List Char}{x:iJ→VC}(h:∀r,xB r [] l=some (x r)):cC (String.ofList l) x:=⟨l,rfl,h⟩
def Ku(s:String)(x:iJ→VC→VC):Prop:=∃l,s=String.ofList l∧∀r a0,xB r [a0] l=some (x r a0)
theorem Rb{l:List Char}{x:iJ→VC→VC}(h:∀r a0,xB r [a0] l=some (x r a0)):Ku (String.ofList l) x:=⟨l,rfl,h⟩
def Kw(s:String)(x:iJ→VC→VC→VC):Prop:=∃l,s=String.ofList l∧∀r a0 a1,xB r [a0,a1] l=some (x r a0 a1)
theorem Re{l:List Char}{x:iJ→VC→VC→VC}(h:∀r a0 a1,xB r [a0,a1] l=some (x r a0 a1)):Kw (String.ofList l) x:=⟨l,rfl,h⟩
def Rf(s:String)(x:iJ→VC→VC→VC→VC→VC):Prop:=∃l,s=String.ofList l∧∀r a0 a1 a2 a3,xB r [a0,a1,a2,a3] l=some (x r a0 a1 a2 a3)
theorem eC4{l:List Char}{x:iJ→VC→VC→VC→VC→VC}(h:∀r a0 a1 a2 a3,xB r [a0,a1,a2,a3] l=some (x r a0 a1 a2 a3)):Rf (String.ofList l) x:=⟨l,rfl,h⟩
def db(s:String)(x:iJ→ba):Prop:=∃l,s=String.ofList l∧∀r,xC r [] l=some (x r)
theorem di{l:List Char}{x:iJ→ba}(h:∀r,xC r [] l=some (x r)):db (String.ofList l) x:=⟨l,rfl,h⟩
def dP(s:String)(x:iJ→VC→ba):Prop:=∃l,s=String.ofList l∧∀r a0,xC r [a0] l=some (x r a0)
theorem dQ{l:List Char}{x:iJ→VC→ba}(h:∀r a0,xC r [a0] l=some (x r a0)):dP (String.ofList l) x:=⟨l,rfl,h⟩
def ox(s:String)(x:iJ→VC→VC→ba):Prop:=∃l,s=String.ofList l∧∀r a0 a1,xC r [a0,a1] l=some (x r a0 a1)
theorem oT{l:List Char}{x:iJ→VC→VC→ba}(h:∀r a0 a1,xC r [a0,a1] l=some (x r a0 a1)):ox (String.ofList l) x:=⟨l,rfl,h⟩
def Rg(s:String)(x:iJ→VC→VC→VC→ba):Prop:=∃l,s=String.ofList l∧∀r a0 a1 a2,xC r [a0,a1,a2] l=some (x r a0 a1 a2)
theorem eF3{l:List Char}{x:iJ→VC→VC→VC→ba}(h:∀r a0 a1 a2,xC r [a0,a1,a2] l=some (x r a0 a1 a2)):Rg (String.ofList l) x:=⟨l,rfl,h⟩
end Go.Vm
