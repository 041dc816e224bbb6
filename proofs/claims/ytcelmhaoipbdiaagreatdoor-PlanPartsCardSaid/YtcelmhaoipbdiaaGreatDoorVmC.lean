/- The value machine, 12: regions, in whatever order. -/
import Derived.Test.YtcelmhaoipbdiaaGreatDoorVmB
namespace Go.Vm
set_option linter.all false
def T3(os:Array Oper)(o:Oper)(v:bA):Bool :=
 match o.guard,v.guard with
 |none,none=>true
 |some (j,w),some (s,w')=>(os[j]?).bind (·.dst)==some s&&w==w'
 |_,_=>false
def Dg(P:Program)(ps:Ps)(nt:Nat)(os:Array Oper)(o:Oper)(v:bA):Bool :=
 v.dst==o.dst&&(match o.dst with|some d=>Nat.blt d nt|none=>true)&&v.op.clean&&Nj P ps o v.op&&T3 os o v
def pN(P:Program)(T:Pk)(C:br):Prop:=∀f args G r G',C f args G=some (r,G')→uh P T f args G r G'
section
variable {P:Program} {E:Entry} {g g':Gh} {S S':St} {a:Act} {w w':World} {d:Nat} {C:br}
theorem aeQ{ps:Ps}(iP:vy P E.T ps){os:Array Oper}{i:Nat}{o:Oper}{v:bA}{K:Act→World→Prop}{Q:Exit→Act→World→Prop}(hi:os[i]?=some o)(bo:Dg P ps E.nt os o v=true)(hC:pN P E.T C)
  (hn:∀n∈v.op.names,S.eM n) (hR:R E g S a w) (ah:v.run C S=some S') (hK:∀g' a' w',R E g' S' a' w'→K a' w'):wpOp P os Q i K a w:=by
 simp only[Dg,bQ,dO]at bo;obtain⟨⟨⟨⟨h1,h2⟩,h3⟩,h4⟩,h5⟩:=bo;have hd:∀d,o.dst=some d→d<E.nt:=fun d hd=>by
  rw[hd]at h2;exact iD h2
 have T4:∀{S'},v.op.run C v.dst S=some S'→cd P E o S S' a w:=fun ah=>by
  rw[h1]at ah;refine aey iP h4 hC hn (fun id x u xS xB=>?_) hR hd ah;have dg:=h3;rw[xS]at dg;exact nG (hn id (by rw[xS];simp[VO.names])) dg xB
 unfold wpOp;simp only[hi];unfold bA.run at ah;unfold T3 at h5;unfold Region.wanted;split at h5
 ·rename_i C9 FU
  rw[FU]at ah;simp only[C9,if_true];exact .inl (T4 ah K Q hK)
 ·rename_i j want s aqU C9 FU
  simp only[bQ,dO]at h5;obtain⟨hs,rfl⟩:=h5;rw[FU]at ah;simp only at ah;simp only[C9];split at ah
  ·rename_i b hb
   obtain⟨x,hx,hr⟩:=hR.env s _ hb;have e:=zL hr;subst e;have hy:yielded os a.tmps j=some b:=by simp[yielded,hs,hx]
   rw[hy];cases Bw:b==want with
   |true =>
    have:=eq_of_beq Bw;subst this;simp only[Bw,bC]at ah;simp only[beq_self_eq_true,if_true];exact .inl (T4 ah K Q hK)
   |false =>
    simp only[Bw,eV]at ah;cases ah;have:(some b==some want)=false:=by simpa using Bw
    rw[this];simp only[EE,if_false];rw[h1]at hK;exact hK g _ _ (hR.put hd .undef)
  ·rename_i hb
   obtain⟨x,hx,hr⟩:=hR.env s _ hb;have e:x=undef:=by
    cases hr with
    |undef=>rfl
    |plain h _=>cases h
   subst e;have hy:yielded os a.tmps j=none:=by simp[yielded,hs,hx,undef]
   rw[hy];cases ah;simp only[Option.none_beq_some,EE,if_false];rw[h1]at hK;exact hK g _ _ (hR.put hd .undef)
  ·cases ah
 ·cases h5
theorem aeR{ps:Ps}{o:Oper}{os:Array Oper}{v:bA}(bo:Dg P ps E.nt os o v=true)(hC:pN P E.T C)(hR:R E g S a w)(hn:S.eM d)(hd:d∉v.op.names)(ah:v.run C S=some S'):S'.eM d:=by
 simp only[Dg,bQ,dO]at bo;obtain⟨⟨⟨⟨h1,h2⟩,h3⟩,h4⟩,h5⟩:=bo;have xK:∀{S'},v.op.run C v.dst S=some S'→S'.eM d:=fun h=>aeO h3 (fun f args G r G' hc=>(hC f args G r G' hc).ret) hR hn hd h;unfold bA.run at ah;split at ah
 ·exact xK ah
 ·rename_i sl want _
  split at ah
  ·rename_i b hb
   cases Bw:b==want with
   |true=>simp only[Bw,bC]at ah;exact xK ah
   |false=>simp only[Bw,eV]at ah;cases ah;exact ed hn rfl
  ·cases ah;exact ed hn rfl
  ·cases ah
def Inv(E:Entry)(vs:List bA)(ids:List Nat)(l:List Nat)(S:St)(a:Act)(w:World):Prop :=
 (∃g,R E g S a w)∧∀d∈ids,(∀k∈l,∀v,vs[k]?=some v→d∉v.op.names)→S.eM d
def Jg(vs:List bA):List Nat:=vs.flatMap (·.op.names)
def FV(vs:List bA)(ids:List Nat):Bool:=decide (Jg vs).Nodup&&(Jg vs).all (ids.contains ·)
def xT(P:Program)(ps:Ps)(nt:Nat)(os:Array Oper):List Oper→List bA→Bool
 |[],[]=>true
 |o::r,v::vs=>Dg P ps nt os o v&&xT P ps nt os r vs
 |_,_=>false
theorem Dh{ps:Ps}{nt:Nat}{os:Array Oper}:∀{r:List Oper} {vs:List bA},xT P ps nt os r vs=true→vs.length=r.length∧∀(i:Nat) o v,r[i]?=some o→vs[i]?=some v→Dg P ps nt os o v=true
 |[],[],_=>by simp
 |[],_::_,h=>by simp[xT]at h
 |_::_,[],h=>by simp[xT]at h
 |o::r,v::vs,h=>by
  simp only[xT,bQ]at h;obtain⟨p,q⟩:=Dh h.2;refine⟨by simp[p],fun i o' v' ho hv=>?_⟩
  cases i with
  |zero=>simp at ho hv;subst ho;subst hv;exact h.1
  |succ i=>exact q i o' v' (by simpa using ho) (by simpa using hv)
theorem T5:∀{vs:List bA},(Jg vs).Nodup→∀{i k:Nat} {u v:bA},vs[i]?=some u→vs[k]?=some v→i≠k→∀n∈u.op.names,n∉v.op.names
 |[],_,i,k,u,v,hi,_,_,_,_=>by simp at hi
 |x::vs,T6,i,k,u,v,hi,hk,cf,n,hn=>by
  simp only[Jg,AT,List.nodup_append]at T6;obtain⟨h1,h2,h3⟩:=T6;cases i with
  |zero =>
   cases k with
   |zero=>exact absurd rfl cf
   |succ k =>
    simp at hi hk;subst hi;intro hv;exact h3 n hn n (Mo.2 ⟨v,gH hk,hv⟩) rfl
  |succ i =>
   cases k with
   |zero =>
    simp at hi hk;subst hk;intro hv;exact h3 n hv n (Mo.2 ⟨u,gH hi,hn⟩) rfl
   |succ k=>exact T5 h2 (by simpa using hi) (by simpa using hk) (by omega) n hn
theorem T7{ps:Ps}(iP:vy P E.T ps){os:Array Oper}{vs:List bA}{ids l:List Nat}{i:Nat}{o:Oper}{v:bA}{K:Act→World→Prop}{Q:Exit→Act→World→Prop}(bo:xT P ps E.nt os os.toList vs=true)(kN:FV vs ids=true)
  (hi:os[i]?=some o) (hv:vs[i]?=some v) (Nu:i∉l) (hC:pN P E.T C) (hinv:Inv E vs ids l S a w) (ah:v.run C S=some S')
  (hK:∀a' w',Inv E vs ids (i::l) S' a' w'→K a' w'):wpOp P os Q i K a w:=by
 obtain⟨⟨g,hR⟩,hn⟩:=hinv;simp only[FV,bQ,jA,g9,Me]at kN;have lg:=(Dh bo).2 i o v (by simpa using hi) hv
 refine aeQ iP hi lg hC (fun n T8=>?_) hR ah fun g' a' w' jj=>hK a' w' ⟨⟨g',jj⟩,fun d hd Ji=>?_⟩
 ·refine hn n (kN.2 n (Mo.2 ⟨v,gH hv,T8⟩)) (fun k hk u hu=>?_)
  exact T5 kN.1 hv hu (fun e=>Nu (e ▸ hk)) n T8
 ·exact aeR lg hC hR (hn d hd fun k hk u hu=>Ji k (AW _ hk) u hu) (Ji i wC v hv) ah
theorem T9{ps:Ps}(iP:vy P E.T ps){os:Array Oper}{vs:List bA}{ids:List Nat}{Q:Exit→Act→World→Prop}(bo:xT P ps E.nt os os.toList vs=true)(kN:FV vs ids=true)(hC:pN P E.T C){Sn:St}
  (hQ:∀g a w,R E g Sn a w→Q .normal a w):∀(n k:Nat) (S:St) (a:Act) (w:World),k+n=os.size→Inv E vs ids (List.range k) S a w→gQ C (vs.drop k) S=some Sn→wpOps P os Q (List.range' k n) a w
 |0,k,S,a,w,hk,hinv,ah=>by
  have hlen:=(Dh bo).1;simp only[wz]at hlen;rw[SA (by omega)]at ah
  simp only[gQ,Option.some.injEq]at ah;subst ah;obtain⟨⟨g,hR⟩,_⟩:=hinv;simp only[List.range'_zero,wpOps];exact hQ g a w hR
 |n+1,k,S,a,w,hk,hinv,ah=>by
  have hlen:=(Dh bo).1;simp only[wz]at hlen;have qO:k<vs.length:=by omega
  have fp:k<os.size:=by omega
  rw[Iv qO,gQ]at ah;split at ah
  ·rename_i S' h1
   rw[EY,wpOps_cons];refine T7 iP bo kN (EC fp) (gG qO) (by simp) hC hinv h1 fun a' w' Jj=>?_
   refine T9 iP bo kN hC hQ n (k+1) S' a' w' (by omega) ?_ ah
   refine⟨Jj.1,fun d hd Ji=>Jj.2 d hd fun j hj v hv=>Ji j ?_ v hv⟩;rcases ko.1 hj with e|e
   ·subst e;simp
   ·simp at e ⊢;omega
  ·cases ah
end
end Go.Vm
