/- The value machine, 12: regions, in whatever order. -/
import Derived.Test.YtmppfkgfnnebeaaGreatDoorVmB
namespace Go.Vm
set_option linter.all false
def Xa(os:Array Oper)(o:Oper)(v:bH):Bool :=
 match o.guard,v.guard with
 |none,none=>true
 |some (j,w),some (s,w')=>(os[j]?).bind (·.dst)==some s&&w==w'
 |_,_=>false
def EV(P:Program)(ps:Ps)(nt:Nat)(os:Array Oper)(o:Oper)(v:bH):Bool :=
 v.dst==o.dst&&(match o.dst with|some d=>Nat.blt d nt|none=>true)&&v.op.clean&&Py P ps o v.op&&Xa os o v
def qA(P:Program)(T:Pk)(C:bD):Prop:=∀f args G r G',C f args G=some (r,G')→vw P T f args G r G'
section
variable {P:Program} {E:Entry} {g g':Gh} {S S':St} {a:Act} {w w':World} {d:Nat} {C:bD}
theorem aje{ps:Ps}(jj:w8 P E.T ps){os:Array Oper}{i:Nat}{o:Oper}{v:bH}{K:Act→World→Prop}{Q:Exit→Act→World→Prop}(hi:os[i]?=some o)(bu:EV P ps E.nt os o v=true)(hC:qA P E.T C)
  (hn:∀n∈v.op.names,S.eN n) (hR:R E g S a w) (hrun:v.run C S=some S') (hK:∀g' a' w',R E g' S' a' w'→K a' w'):wpOp P os Q i K a w:=by
 simp only[EV,bS,dO]at bu;obtain⟨⟨⟨⟨h1,h2⟩,h3⟩,h4⟩,h5⟩:=bu;have hd:∀d,o.dst=some d→d<E.nt:=fun d hd=>by
  rw[hd]at h2;exact il h2
 have Xb:∀{S'},v.op.run C v.dst S=some S'→ch P E o S S' a w:=fun hrun=>by
  rw[h1]at hrun;refine aiW jj h4 hC hn (fun id x u zR zD=>?_) hR hd hrun;have dC:=h3;rw[zR]at dC;exact oD (hn id (by rw[zR];simp[VO.names])) dC zD
 unfold wpOp;simp only[hi];unfold bH.run at hrun;unfold Xa at h5;unfold Region.wanted;split at h5
 ·rename_i EP HS
  rw[HS]at hrun;simp only[EP,if_true];exact .inl (Xb hrun K Q hK)
 ·rename_i j want s awO EP HS
  simp only[bS,dO]at h5;obtain⟨hs,rfl⟩:=h5;rw[HS]at hrun;simp only at hrun;simp only[EP];split at hrun
  ·rename_i b hb
   obtain⟨x,hx,hr⟩:=hR.env s _ hb;have e:=A9 hr;subst e;have hy:yielded os a.tmps j=some b:=by simp[yielded,hs,hx]
   rw[hy];cases CX:b==want with
   |true =>
    have:=eq_of_beq CX;subst this;simp only[CX,bG]at hrun;simp only[beq_self_eq_true,if_true];exact .inl (Xb hrun K Q hK)
   |false =>
    simp only[CX,eD]at hrun;cases hrun;have:(some b==some want)=false:=by simpa using CX
    rw[this];simp only[D9,if_false];rw[h1]at hK;exact hK g _ _ (hR.put hd .undef)
  ·rename_i hb
   obtain⟨x,hx,hr⟩:=hR.env s _ hb;have e:x=undef:=by
    cases hr with
    |undef=>rfl
    |plain h _=>cases h
   subst e;have hy:yielded os a.tmps j=none:=by simp[yielded,hs,hx,undef]
   rw[hy];cases hrun;simp only[Option.none_beq_some,D9,if_false];rw[h1]at hK;exact hK g _ _ (hR.put hd .undef)
  ·cases hrun
 ·cases h5
theorem ajf{ps:Ps}{o:Oper}{os:Array Oper}{v:bH}(bu:EV P ps E.nt os o v=true)(hC:qA P E.T C)(hR:R E g S a w)(hn:S.eN d)(hd:d∉v.op.names)(hrun:v.run C S=some S'):S'.eN d:=by
 simp only[EV,bS,dO]at bu;obtain⟨⟨⟨⟨h1,h2⟩,h3⟩,h4⟩,h5⟩:=bu;have zK:∀{S'},v.op.run C v.dst S=some S'→S'.eN d:=fun h=>ajc h3 (fun f args G r G' hc=>(hC f args G r G' hc).ret) hR hn hd h;unfold bH.run at hrun;split at hrun
 ·exact zK hrun
 ·rename_i sl want _
  split at hrun
  ·rename_i b hb
   cases CX:b==want with
   |true=>simp only[CX,bG]at hrun;exact zK hrun
   |false=>simp only[CX,eD]at hrun;cases hrun;exact ea hn rfl
  ·cases hrun;exact ea hn rfl
  ·cases hrun
def Inv(E:Entry)(vs:List bH)(ids:List Nat)(l:List Nat)(S:St)(a:Act)(w:World):Prop :=
 (∃g,R E g S a w)∧∀d∈ids,(∀k∈l,∀v,vs[k]?=some v→d∉v.op.names)→S.eN d
def K3(vs:List bH):List Nat:=vs.flatMap (·.op.names)
def HT(vs:List bH)(ids:List Nat):Bool:=decide (K3 vs).Nodup&&(K3 vs).all (ids.contains ·)
def zS(P:Program)(ps:Ps)(nt:Nat)(os:Array Oper):List Oper→List bH→Bool
 |[],[]=>true
 |o::r,v::vs=>EV P ps nt os o v&&zS P ps nt os r vs
 |_,_=>false
theorem EW{ps:Ps}{nt:Nat}{os:Array Oper}:∀{r:List Oper} {vs:List bH},zS P ps nt os r vs=true→vs.length=r.length∧∀(i:Nat) o v,r[i]?=some o→vs[i]?=some v→EV P ps nt os o v=true
 |[],[],_=>by simp
 |[],_::_,h=>by simp[zS]at h
 |_::_,[],h=>by simp[zS]at h
 |o::r,v::vs,h=>by
  simp only[zS,bS]at h;obtain⟨p,q⟩:=EW h.2;refine⟨by simp[p],fun i o' v' ho hv=>?_⟩
  cases i with
  |zero=>simp at ho hv;subst ho;subst hv;exact h.1
  |succ i=>exact q i o' v' (by simpa using ho) (by simpa using hv)
theorem Xc:∀{vs:List bH},(K3 vs).Nodup→∀{i k:Nat} {u v:bH},vs[i]?=some u→vs[k]?=some v→i≠k→∀n∈u.op.names,n∉v.op.names
 |[],_,i,k,u,v,hi,_,_,_,_=>by simp at hi
 |x::vs,Xd,i,k,u,v,hi,hk,cf,n,hn=>by
  simp only[K3,Cj,List.nodup_append]at Xd;obtain⟨h1,h2,h3⟩:=Xd;cases i with
  |zero =>
   cases k with
   |zero=>exact absurd rfl cf
   |succ k =>
    simp at hi hk;subst hi;intro hv;exact h3 n hn n (OE.2 ⟨v,fW hk,hv⟩) rfl
  |succ i =>
   cases k with
   |zero =>
    simp at hi hk;subst hk;intro hv;exact h3 n hv n (OE.2 ⟨u,fW hi,hn⟩) rfl
   |succ k=>exact Xc h2 (by simpa using hi) (by simpa using hk) (by omega) n hn
theorem K5{ps:Ps}(jj:w8 P E.T ps){os:Array Oper}{vs:List bH}{ids l:List Nat}{i:Nat}{o:Oper}{v:bH}{K:Act→World→Prop}{Q:Exit→Act→World→Prop}(bu:zS P ps E.nt os os.toList vs=true)(ly:HT vs ids=true)
  (hi:os[i]?=some o) (hv:vs[i]?=some v) (PJ:i∉l) (hC:qA P E.T C) (hinv:Inv E vs ids l S a w) (hrun:v.run C S=some S')
  (hK:∀a' w',Inv E vs ids (i::l) S' a' w'→K a' w'):wpOp P os Q i K a w:=by
 obtain⟨⟨g,hR⟩,hn⟩:=hinv;simp only[HT,bS,iD,g8,Ox]at ly;have lS:=(EW bu).2 i o v (by simpa using hi) hv
 refine aje jj hi lS hC (fun n Xe=>?_) hR hrun fun g' a' w' jG=>hK a' w' ⟨⟨g',jG⟩,fun d hd K6=>?_⟩
 ·refine hn n (ly.2 n (OE.2 ⟨v,fW hv,Xe⟩)) (fun k hk u hu=>?_)
  exact Xc ly.1 hv hu (fun e=>PJ (e ▸ hk)) n Xe
 ·exact ajf lS hC hR (hn d hd fun k hk u hu=>K6 k (Cn _ hk) u hu) (K6 i xW v hv) hrun
theorem Xf{ps:Ps}(jj:w8 P E.T ps){os:Array Oper}{vs:List bH}{ids:List Nat}{Q:Exit→Act→World→Prop}(bu:zS P ps E.nt os os.toList vs=true)(ly:HT vs ids=true)(hC:qA P E.T C){Sn:St}
  (hQ:∀g a w,R E g Sn a w→Q .normal a w):∀(n k:Nat) (S:St) (a:Act) (w:World),k+n=os.size→Inv E vs ids (List.range k) S a w→gW C (vs.drop k) S=some Sn→wpOps P os Q (List.range' k n) a w
 |0,k,S,a,w,hk,hinv,hrun=>by
  have hlen:=(EW bu).1;simp only[xS]at hlen;rw[VK (by omega)]at hrun
  simp only[gW,Option.some.injEq]at hrun;subst hrun;obtain⟨⟨g,hR⟩,_⟩:=hinv;simp only[List.range'_zero,wpOps];exact hQ g a w hR
 |n+1,k,S,a,w,hk,hinv,hrun=>by
  have hlen:=(EW bu).1;simp only[xS]at hlen;have sB:k<vs.length:=by omega
  have fx:k<os.size:=by omega
  rw[Ki sB,gW]at hrun;split at hrun
  ·rename_i S' h1
   rw[Eh,wpOps_cons];refine K5 jj bu ly (GD fx) (fN sB) (by simp) hC hinv h1 fun a' w' K7=>?_
   refine Xf jj bu ly hC hQ n (k+1) S' a' w' (by omega) ?_ hrun
   refine⟨K7.1,fun d hd K6=>K7.2 d hd fun j hj v hv=>K6 j ?_ v hv⟩;rcases jB.1 hj with e|e
   ·subst e;simp
   ·simp at e ⊢;omega
  ·cases hrun
end
end Go.Vm
