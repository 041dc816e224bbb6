/- The value machine, 12: regions, in whatever order. -/
import Derived.Test.YtcelmhaoipbdiaaGreatVmB
namespace Go.Vm
set_option linter.all false
def XT(os:Array Oper)(o:Oper)(v:bK):Bool :=
 match o.guard,v.guard with
 |none,none=>true
 |some (j,w),some (s,w')=>(os[j]?).bind (·.dst)==some s&&w==w'
 |_,_=>false
def Fp(P:Program)(ps:Ps)(nt:Nat)(os:Array Oper)(o:Oper)(v:bK):Bool :=
 v.dst==o.dst&&(match o.dst with|some d=>Nat.blt d nt|none=>true)&&v.op.clean&&Qo P ps o v.op&&XT os o v
def qm(P:Program)(T:Pk)(C:bD):Prop:=∀f args G r G',C f args G=some (r,G')→vN P T f args G r G'
section
variable {P:Program} {E:Entry} {g g':Gh} {S S':St} {a:Act} {w w':World} {d:Nat} {C:bD}
theorem ajY{ps:Ps}(iF:xc P E.T ps){os:Array Oper}{i:Nat}{o:Oper}{v:bK}{K:Act→World→Prop}{Q:Exit→Act→World→Prop}(hi:os[i]?=some o)(bz:Fp P ps E.nt os o v=true)(hC:qm P E.T C)
  (hn:∀n∈v.op.names,S.fb n) (hR:R E g S a w) (ah:v.run C S=some S') (hK:∀g' a' w',R E g' S' a' w'→K a' w'):wpOp P os Q i K a w:=by
 simp only[Fp,b8,eg]at bz;obtain⟨⟨⟨⟨h1,h2⟩,h3⟩,h4⟩,h5⟩:=bz;have hd:∀d,o.dst=some d→d<E.nt:=fun d hd=>by
  rw[hd]at h2;exact jk h2
 have XU:∀{S'},v.op.run C v.dst S=some S'→ct P E o S S' a w:=fun ah=>by
  rw[h1]at ah;refine ajG iF h4 hC hn (fun id x u Af zQ=>?_) hR hd ah;have dJ:=h3;rw[Af]at dJ;exact oV (hn id (by rw[Af];simp[VO.names])) dJ zQ
 unfold wpOp;simp only[hi];unfold bK.run at ah;unfold XT at h5;unfold Region.wanted;split at h5
 ·rename_i Fi Ib
  rw[Ib]at ah;simp only[Fi,if_true];exact .inl (XU ah K Q hK)
 ·rename_i j want s ax0 Fi Ib
  simp only[b8,eg]at h5;obtain⟨hs,rfl⟩:=h5;rw[Ib]at ah;simp only at ah;simp only[Fi];split at ah
  ·rename_i b hb
   obtain⟨x,hx,hr⟩:=hR.env s _ hb;have e:=Bt hr;subst e;have hy:yielded os a.tmps j=some b:=by simp[yielded,hs,hx]
   rw[hy];cases Dt:b==want with
   |true =>
    have:=eq_of_beq Dt;subst this;simp only[Dt,bM]at ah;simp only[beq_self_eq_true,if_true];exact .inl (XU ah K Q hK)
   |false =>
    simp only[Dt,fu]at ah;cases ah;have:(some b==some want)=false:=by simpa using Dt
    rw[this];simp only[Hb,if_false];rw[h1]at hK;exact hK g _ _ (hR.put hd .undef)
  ·rename_i hb
   obtain⟨x,hx,hr⟩:=hR.env s _ hb;have e:x=undef:=by
    cases hr with
    |undef=>rfl
    |plain h _=>cases h
   subst e;have hy:yielded os a.tmps j=none:=by simp[yielded,hs,hx,undef]
   rw[hy];cases ah;simp only[Option.none_beq_some,Hb,if_false];rw[h1]at hK;exact hK g _ _ (hR.put hd .undef)
  ·cases ah
 ·cases h5
theorem ajZ{ps:Ps}{o:Oper}{os:Array Oper}{v:bK}(bz:Fp P ps E.nt os o v=true)(hC:qm P E.T C)(hR:R E g S a w)(hn:S.fb d)(hd:d∉v.op.names)(ah:v.run C S=some S'):S'.fb d:=by
 simp only[Fp,b8,eg]at bz;obtain⟨⟨⟨⟨h1,h2⟩,h3⟩,h4⟩,h5⟩:=bz;have z6:∀{S'},v.op.run C v.dst S=some S'→S'.fb d:=fun h=>ajW h3 (fun f args G r G' hc=>(hC f args G r G' hc).ret) hR hn hd h;unfold bK.run at ah;split at ah
 ·exact z6 ah
 ·rename_i sl want _
  split at ah
  ·rename_i b hb
   cases Dt:b==want with
   |true=>simp only[Dt,bM]at ah;exact z6 ah
   |false=>simp only[Dt,fu]at ah;cases ah;exact eB hn rfl
  ·cases ah;exact eB hn rfl
  ·cases ah
def Inv(E:Entry)(vs:List bK)(ids:List Nat)(l:List Nat)(S:St)(a:Act)(w:World):Prop :=
 (∃g,R E g S a w)∧∀d∈ids,(∀k∈l,∀v,vs[k]?=some v→d∉v.op.names)→S.fb d
def LA(vs:List bK):List Nat:=vs.flatMap (·.op.names)
def Ic(vs:List bK)(ids:List Nat):Bool:=decide (LA vs).Nodup&&(LA vs).all (ids.contains ·)
def Ag(P:Program)(ps:Ps)(nt:Nat)(os:Array Oper):List Oper→List bK→Bool
 |[],[]=>true
 |o::r,v::vs=>Fp P ps nt os o v&&Ag P ps nt os r vs
 |_,_=>false
theorem Fq{ps:Ps}{nt:Nat}{os:Array Oper}:∀{r:List Oper} {vs:List bK},Ag P ps nt os r vs=true→vs.length=r.length∧∀(i:Nat) o v,r[i]?=some o→vs[i]?=some v→Fp P ps nt os o v=true
 |[],[],_=>by simp
 |[],_::_,h=>by simp[Ag]at h
 |_::_,[],h=>by simp[Ag]at h
 |o::r,v::vs,h=>by
  simp only[Ag,b8]at h;obtain⟨p,q⟩:=Fq h.2;refine⟨by simp[p],fun i o' v' ho hv=>?_⟩
  cases i with
  |zero=>simp at ho hv;subst ho;subst hv;exact h.1
  |succ i=>exact q i o' v' (by simpa using ho) (by simpa using hv)
theorem XV:∀{vs:List bK},(LA vs).Nodup→∀{i k:Nat} {u v:bK},vs[i]?=some u→vs[k]?=some v→i≠k→∀n∈u.op.names,n∉v.op.names
 |[],_,i,k,u,v,hi,_,_,_,_=>by simp at hi
 |x::vs,XW,i,k,u,v,hi,hk,cq,n,hn=>by
  simp only[LA,CO,List.nodup_append]at XW;obtain⟨h1,h2,h3⟩:=XW;cases i with
  |zero =>
   cases k with
   |zero=>exact absurd rfl cq
   |succ k =>
    simp at hi hk;subst hi;intro hv;exact h3 n hn n (Pp.2 ⟨v,g9 hk,hv⟩) rfl
  |succ i =>
   cases k with
   |zero =>
    simp at hi hk;subst hk;intro hv;exact h3 n hv n (Pp.2 ⟨u,g9 hi,hn⟩) rfl
   |succ k=>exact XV h2 (by simpa using hi) (by simpa using hk) (by omega) n hn
theorem XX{ps:Ps}(iF:xc P E.T ps){os:Array Oper}{vs:List bK}{ids l:List Nat}{i:Nat}{o:Oper}{v:bK}{K:Act→World→Prop}{Q:Exit→Act→World→Prop}(bz:Ag P ps E.nt os os.toList vs=true)(me:Ic vs ids=true)
  (hi:os[i]?=some o) (hv:vs[i]?=some v) (Qz:i∉l) (hC:qm P E.T C) (hinv:Inv E vs ids l S a w) (ah:v.run C S=some S')
  (hK:∀a' w',Inv E vs ids (i::l) S' a' w'→K a' w'):wpOp P os Q i K a w:=by
 obtain⟨⟨g,hR⟩,hn⟩:=hinv;simp only[Ic,b8,kA,iL,O9]at me;have mB:=(Fq bz).2 i o v (by simpa using hi) hv
 refine ajY iF hi mB hC (fun n XY=>?_) hR ah fun g' a' w' kd=>hK a' w' ⟨⟨g',kd⟩,fun d hd LC=>?_⟩
 ·refine hn n (me.2 n (Pp.2 ⟨v,g9 hv,XY⟩)) (fun k hk u hu=>?_)
  exact XV me.1 hv hu (fun e=>Qz (e ▸ hk)) n XY
 ·exact ajZ mB hC hR (hn d hd fun k hk u hu=>LC k (CR _ hk) u hu) (LC i xV v hv) ah
theorem XZ{ps:Ps}(iF:xc P E.T ps){os:Array Oper}{vs:List bK}{ids:List Nat}{Q:Exit→Act→World→Prop}(bz:Ag P ps E.nt os os.toList vs=true)(me:Ic vs ids=true)(hC:qm P E.T C){Sn:St}
  (hQ:∀g a w,R E g Sn a w→Q .normal a w):∀(n k:Nat) (S:St) (a:Act) (w:World),k+n=os.size→Inv E vs ids (List.range k) S a w→iE C (vs.drop k) S=some Sn→wpOps P os Q (List.range' k n) a w
 |0,k,S,a,w,hk,hinv,ah=>by
  have hlen:=(Fq bz).1;simp only[xS]at hlen;rw[WB (by omega)]at ah
  simp only[iE,Option.some.injEq]at ah;subst ah;obtain⟨⟨g,hR⟩,_⟩:=hinv;simp only[List.range'_zero,wpOps];exact hQ g a w hR
 |n+1,k,S,a,w,hk,hinv,ah=>by
  have hlen:=(Fq bz).1;simp only[xS]at hlen;have r0:k<vs.length:=by omega
  have fU:k<os.size:=by omega
  rw[KM r0,iE]at ah;split at ah
  ·rename_i S' h1
   rw[Hq,wpOps_cons];refine XX iF bz me (G9 fU) (g8 r0) (by simp) hC hinv h1 fun a' w' LD=>?_
   refine XZ iF bz me hC hQ n (k+1) S' a' w' (by omega) ?_ ah
   refine⟨LD.1,fun d hd LC=>LD.2 d hd fun j hj v hv=>LC j ?_ v hv⟩;rcases jQ.1 hj with e|e
   ·subst e;simp
   ·simp at e ⊢;omega
  ·cases ah
end
end Go.Vm
