/- - -/
import Derived.Test.YtabckmbjnjnegaaGreatDoorVmB
namespace Go.Vm
set_option linter.all false
def aaC(os:Array Oper)(o:Oper)(v:cf):Bool :=
 match o.guard,v.guard with
 |none,none=>true
 |some (j,w),some (s,w')=>(os[j]?).bind (·.dst)==some s&&w==w'
 |_,_=>false
def Hh(P:Program)(ps:Ps)(nt:Nat)(os:Array Oper)(o:Oper)(v:cf):Bool :=
 v.dst==o.dst&&(match o.dst with|some d=>Nat.blt d nt|none=>true)&&v.op.clean&&SZ P ps o v.op&&aaC os o v
def sj(P:Program)(T:Pk)(C:bI):Prop:=∀f args G r G',C f args G=some (r,G')->xJ P T f args G r G'
section
variable {P:Program} {E:Entry} {g g':Gh} {S S':St} {a:Act} {w w':World} {d:Nat} {C:bI}
variable{os:Array Oper}{i:Nat}{o:Oper}{v:cf}{K:Act->World->Prop}{Q:Exit->Act->World->Prop}
def anJ{ps:Ps}(jH:yZ P E.T ps)(hi:os[i]?=some o)(bE:Hh P ps E.nt os o v=true)(hC:sj P E.T C)
  (hn:∀n∈v.op.names,S.fa n) (hR:R E g S a w) (hrun:v.run C S=some S') (hK:∀g' a' w',R E g' S' a' w'->K a' w'):wpOp P os Q i K a w:=by
 simp only[Hh,bZ,ec]at bE;obtain⟨⟨⟨⟨h1,h2⟩,h3⟩,h4⟩,h5⟩:=bE;have hd:∀d,o.dst=some d->d<E.nt:=λd hd=>by
  rw[hd]at h2;exact js h2
 have hdo:∀{S'},v.op.run C v.dst S=some S'->cC P E o S S' a w:=λhrun=>by
  rw[h1]at hrun;refine anp jH h4 hC hn (λid x u Bv Bb=>?_) hR hd hrun;have dS:=h3;rw[Bv]at dS;exact qo (hn id (by rw[Bv];simp[VO.names])) dS Bb
 unfold wpOp;simp only[hi];unfold cf.run at hrun;unfold aaC at h5;unfold Region.wanted;split at h5
 next Hc Kd=>
  rw[Kd]at hrun;simp only[Hc,if_true];exact .inl (hdo hrun K Q hK)
 next j want s aDp Hc Kd=>
  simp only[bZ,ec]at h5;obtain⟨hs,rfl⟩:=h5;rw[Kd]at hrun;simp only at hrun;simp only[Hc];split at hrun
  next b hb=>
   obtain⟨x,hx,hr⟩:=hR.env s _ hb;have e:=CX hr;subst e;have hy:yielded os a.tmps j=some b:=by simp[yielded,hs,hx]
   rw[hy];cases ET:b==want with
   |true =>
    have:=eq_of_beq ET;subst this;simp only[ET,bW]at hrun;simp only[beq_self_eq_true,if_true];exact .inl (hdo hrun K Q hK)
   |false =>
    simp only[ET,gL]at hrun;cases hrun;have:(some b==some want)=false:=by simpa using ET
    rw[this];simp only[Gk,if_false];rw[h1]at hK;exact hK g _ _ (hR.put hd .undef)
  next hb=>
   obtain⟨x,hx,hr⟩:=hR.env s _ hb;have e:x=undef:=by
    cases hr with
    |undef=>rfl
    |plain h _=>cases h
   subst e;have hy:yielded os a.tmps j=none:=by simp[yielded,hs,hx,undef]
   rw[hy];cases hrun;simp only[Option.none_beq_some,Gk,if_false];rw[h1]at hK;exact hK g _ _ (hR.put hd .undef)
  .cases hrun
 .cases h5
def anK{ps:Ps}(bE:Hh P ps E.nt os o v=true)(hC:sj P E.T C)(hR:R E g S a w)(hn:S.fa d)(hd:d∉v.op.names)(hrun:v.run C S=some S'):S'.fa d:=by
 simp only[Hh,bZ,ec]at bE;obtain⟨⟨⟨⟨h1,h2⟩,h3⟩,h4⟩,h5⟩:=bE;have Bl:∀{S'},v.op.run C v.dst S=some S'->S'.fa d:=λh=>anH h3 (λf args G r G' hc=>(hC f args G r G' hc).ret) hR hn hd h;unfold cf.run at hrun;split at hrun
 .exact Bl hrun
 next sl want _=>
  split at hrun
  next b hb=>
   cases ET:b==want with
   |true=>simp only[ET,bW]at hrun;exact Bl hrun
   |false=>simp only[ET,gL]at hrun;cases hrun;exact ez hn rfl
  .cases hrun;exact ez hn rfl
  .cases hrun
def Inv(E:Entry)(vs:List cf)(ids:List Nat)(l:List Nat)(S:St)(a:Act)(w:World):Prop :=
 (∃g,R E g S a w)/\∀d∈ids,(∀k∈l,∀v,vs[k]?=some v->d∉v.op.names)->S.fa d
def NS(vs:List cf):List Nat:=vs.flatMap (·.op.names)
def Ke(vs:List cf)(ids:List Nat):Bool:=decide (NS vs).Nodup&&(NS vs).all (ids.contains ·)
def Bw(P:Program)(ps:Ps)(nt:Nat)(os:Array Oper):List Oper->List cf->Bool
 |[],[]=>true
 |o::r,v::vs=>Hh P ps nt os o v&&Bw P ps nt os r vs
 |_,_=>false
def Hj{ps:Ps}{nt:Nat}{os:Array Oper}:∀{r:List Oper} {vs:List cf},Bw P ps nt os r vs=true->vs.length=r.length/\∀(i:Nat) o v,r[i]?=some o->vs[i]?=some v->Hh P ps nt os o v=true
 |[],[],_=>by simp
 |[],_::_,h=>by simp[Bw]at h
 |_::_,[],h=>by simp[Bw]at h
 |o::r,v::vs,h=>by
  simp only[Bw,bZ]at h;obtain⟨p,q⟩:=Hj h.2;refine⟨by simp[p],λi o' v' ho hv=>?_⟩
  cases i with
  |zero=>simp at ho hv;subst ho;subst hv;exact h.1
  |succ i=>exact q i o' v' (by simpa using ho) (by simpa using hv)
def aaE:∀{vs:List cf},(NS vs).Nodup->∀{i k:Nat} {u v:cf},vs[i]?=some u->vs[k]?=some v->i≠k->∀n∈u.op.names,n∉v.op.names
 |[],_,i,k,u,v,hi,_,_,_,_=>by simp at hi
 |x::vs,NU,i,k,u,v,hi,hk,cy,n,hn=>by
  simp only[NS,Ei,List.nodup_append]at NU;obtain⟨h1,h2,h3⟩:=NU;cases i with
  |zero =>
   cases k with
   |zero=>exact absurd rfl cy
   |succ k =>
    simp at hi hk;subst hi;intro hv;exact h3 n hn n (RY.2 ⟨v,gw hk,hv⟩) rfl
  |succ i =>
   cases k with
   |zero =>
    simp at hi hk;subst hk;intro hv;exact h3 n hv n (RY.2 ⟨u,gw hi,hn⟩) rfl
   |succ k=>exact aaE h2 (by simpa using hi) (by simpa using hk) (by omega) n hn
def NV{ps:Ps}(jH:yZ P E.T ps){vs:List cf}{ids l:List Nat}(bE:Bw P ps E.nt os os.toList vs=true)(mT:Ke vs ids=true)
  (hi:os[i]?=some o) (hv:vs[i]?=some v) (Te:i∉l) (hC:sj P E.T C) (hinv:Inv E vs ids l S a w) (hrun:v.run C S=some S')
  (hK:∀a' w',Inv E vs ids (i::l) S' a' w'->K a' w'):wpOp P os Q i K a w:=by
 obtain⟨⟨g,hR⟩,hn⟩:=hinv;simp only[Ke,bZ,jD,iW,RQ]at mT;have nA:=(Hj bE).2 i o v (by simpa using hi) hv
 refine anJ jH hi nA hC (λn hnv=>?_) hR hrun λg' a' w' kJ=>hK a' w' ⟨⟨g',kJ⟩,λd hd NW=>?_⟩
 .refine hn n (mT.2 n (RY.2 ⟨v,gw hv,hnv⟩)) (λk hk u hu=>?_)
  exact aaE mT.1 hv hu (λe=>Te (e ▸ hk)) n hnv
 .exact anK nA hC hR (hn d hd λk hk u hu=>NW k (Ej _ hk) u hu) (NW i z7 v hv) hrun
def aaG{ps:Ps}(jH:yZ P E.T ps){os:Array Oper}{vs:List cf}{ids:List Nat}{Q:Exit->Act->World->Prop}(bE:Bw P ps E.nt os os.toList vs=true)(mT:Ke vs ids=true)(hC:sj P E.T C){Sn:St}
  (hQ:∀g a w,R E g Sn a w->Q .normal a w):∀(n k:Nat) (S:St) (a:Act) (w:World),k+n=os.size->Inv E vs ids (List.range k) S a w->iZ C (vs.drop k) S=some Sn->wpOps P os Q (List.range' k n) a w
 |0,k,S,a,w,hk,hinv,hrun=>by
  have hlen:=(Hj bE).1;simp only[zZ]at hlen;rw[Jj (by omega)]at hrun
  simp only[iZ,Option.some.injEq]at hrun;subst hrun;obtain⟨⟨g,hR⟩,_⟩:=hinv;simp only[List.range'_zero,wpOps];exact hQ g a w hR
 |n+1,k,S,a,w,hk,hinv,hrun=>by
  have hlen:=(Hj bE).1;simp only[zZ]at hlen;have uA:k<vs.length:=by omega
  have gi:k<os.size:=by omega
  rw[CG uA,iZ]at hrun;split at hrun
  next S' h1=>
   rw[El,wpOps_cons];refine NV jH bE mT (I8 gi) (eV uA) (by simp) hC hinv h1 λa' w' NX=>?_
   refine aaG jH bE mT hC hQ n (k+1) S' a' w' (by omega) ?_ hrun
   refine⟨NX.1,λd hd NW=>NX.2 d hd λj hj v hv=>NW j ?_ v hv⟩;rcases iA.1 hj with e|e
   .subst e;simp
   .simp at e ⊢;omega
  .cases hrun
end
