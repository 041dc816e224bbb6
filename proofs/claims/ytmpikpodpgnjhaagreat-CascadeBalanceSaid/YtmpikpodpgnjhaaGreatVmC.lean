/- The value machine, 12: regions, in whatever order. -/
import Derived.Test.YtmpikpodpgnjhaaGreatVmB
namespace Go.Vm
set_option linter.all false
def OZ(os:Array Oper)(o:Oper)(v:bI):Bool :=
 match o.guard,v.guard with
 |none,none=>true
 |some (j,w),some (s,w')=>(os[j]?).bind (·.dst)==some s&&w==w'
 |_,_=>false
def AA(P:Program)(ps:List (Nat×Nat))(nt:Nat)(os:Array Oper)(o:Oper)(v:bI):Bool :=
 v.dst==o.dst&&(match o.dst with|some d=>Nat.blt d nt|none=>true)&&v.op.clean&&I6 P ps o v.op&&OZ os o v
def oN(P:Program)(C:bC):Prop:=∀f args G r G',C f args G=some (r,G')→r8 P f args G r G'
section
variable {P:Program} {E:Entry} {g g':Gh} {S S':St} {a:Act} {w w':World} {d:Nat} {C:bC}
theorem XW{ps:List (Nat×Nat)}(iR:∀f k,look f ps=some k→pU P k f){os:Array Oper}{i:Nat}{o:Oper}{v:bI}{K:Act→World→Prop}{Q:Exit→Act→World→Prop}(hi:os[i]?=some o)(bz:AA P ps E.nt os o v=true)(hC:oN P C)
  (hn:∀n∈v.op.names,S.eR n) (hR:R E g S a w) (aj:v.run C S=some S') (hK:∀g' a' w',R E g' S' a' w'→K a' w'):wpOp P os Q i K a w:=by
 simp only[AA,Bool.and_eq_true,beq_iff_eq]at bz;obtain⟨⟨⟨⟨h1,h2⟩,h3⟩,h4⟩,h5⟩:=bz;have hd:∀d,o.dst=some d→d<E.nt:=fun d hd=>by
  rw[hd]at h2;exact Nat.le_of_ble_eq_true h2
 have O0:∀{S'},v.op.run C v.dst S=some S'→ct P E o S S' a w:=fun aj=>by
  rw[h1]at aj;refine XF iR h4 hC hn (fun id x u vq xP=>?_) hR hd aj;have dD:=h3;rw[vq]at dD;exact nn (hn id (by rw[vq];simp[VO.names])) dD xP
 unfold wpOp;simp only[hi];unfold bI.run at aj;unfold OZ at h5;unfold Region.wanted;split at h5
 ·rename_i As CG
  rw[CG]at aj;simp only[As,if_true];exact .inl (O0 aj K Q hK)
 ·rename_i j want s akO As CG
  simp only[Bool.and_eq_true,beq_iff_eq]at h5;obtain⟨hs,rfl⟩:=h5;rw[CG]at aj;simp only at aj;simp only[As];split at aj
  ·rename_i b hb
   obtain⟨x,hx,hr⟩:=hR.env s _ hb;have e:=wF hr;subst e;have hy:yielded os a.tmps j=some b:=by simp[yielded,hs,hx]
   rw[hy];cases yo:b==want with
   |true =>
    have:=eq_of_beq yo;subst this;simp only[yo,cond_true]at aj;simp only[beq_self_eq_true,if_true];exact .inl (O0 aj K Q hK)
   |false =>
    simp only[yo,cond_false]at aj;cases aj;have:(some b==some want)=false:=by simpa using yo
    rw[this];simp only[Bool.false_eq_true,if_false];rw[h1]at hK;exact hK g _ _ (hR.put hd .undef)
  ·rename_i hb
   obtain⟨x,hx,hr⟩:=hR.env s _ hb;have e:x=undef:=by
    cases hr with
    |undef=>rfl
    |plain h _=>cases h
   subst e;have hy:yielded os a.tmps j=none:=by simp[yielded,hs,hx,undef]
   rw[hy];cases aj;simp only[Option.none_beq_some,Bool.false_eq_true,if_false];rw[h1]at hK;exact hK g _ _ (hR.put hd .undef)
  ·cases aj
 ·cases h5
theorem XX{ps:List (Nat×Nat)}{o:Oper}{os:Array Oper}{v:bI}(bz:AA P ps E.nt os o v=true)(hC:oN P C)(hR:R E g S a w)(hn:S.eR d)(hd:d∉v.op.names)(aj:v.run C S=some S'):S'.eR d:=by
 simp only[AA,Bool.and_eq_true,beq_iff_eq]at bz;obtain⟨⟨⟨⟨h1,h2⟩,h3⟩,h4⟩,h5⟩:=bz;have vh:∀{S'},v.op.run C v.dst S=some S'→S'.eR d:=fun h=>XU h3 (fun f args G r G' hc=>(hC f args G r G' hc).ret) hR hn hd h;unfold bI.run at aj;split at aj
 ·exact vh aj
 ·rename_i sl want _
  split at aj
  ·rename_i b hb
   cases yo:b==want with
   |true=>simp only[yo,cond_true]at aj;exact vh aj
   |false=>simp only[yo,cond_false]at aj;cases aj;exact eD hn rfl
  ·cases aj;exact eD hn rfl
  ·cases aj
def Inv(E:Entry)(vs:List bI)(ids:List Nat)(l:List Nat)(S:St)(a:Act)(w:World):Prop :=
 (∃g,R E g S a w)∧∀d∈ids,(∀k∈l,∀v,vs[k]?=some v→d∉v.op.names)→S.eR d
def Ff(vs:List bI):List Nat:=vs.flatMap (·.op.names)
def CH(vs:List bI)(ids:List Nat):Bool:=decide (Ff vs).Nodup&&(Ff vs).all (ids.contains ·)
def vr(P:Program)(ps:List (Nat×Nat))(nt:Nat)(os:Array Oper):List Oper→List bI→Bool
 |[],[]=>true
 |o::r,v::vs=>AA P ps nt os o v&&vr P ps nt os r vs
 |_,_=>false
theorem AB{ps:List (Nat×Nat)}{nt:Nat}{os:Array Oper}:∀{r:List Oper} {vs:List bI},vr P ps nt os r vs=true→vs.length=r.length∧∀(i:Nat) o v,r[i]?=some o→vs[i]?=some v→AA P ps nt os o v=true
 |[],[],_=>by simp
 |[],_::_,h=>by simp[vr]at h
 |_::_,[],h=>by simp[vr]at h
 |o::r,v::vs,h=>by
  simp only[vr,Bool.and_eq_true]at h;obtain⟨p,q⟩:=AB h.2;refine⟨by simp[p],fun i o' v' ho hv=>?_⟩
  cases i with
  |zero=>simp at ho hv;subst ho;subst hv;exact h.1
  |succ i=>exact q i o' v' (by simpa using ho) (by simpa using hv)
theorem O1:∀{vs:List bI},(Ff vs).Nodup→∀{i k:Nat} {u v:bI},vs[i]?=some u→vs[k]?=some v→i≠k→∀n∈u.op.names,n∉v.op.names
 |[],_,i,k,u,v,hi,_,_,_,_=>by simp at hi
 |x::vs,O2,i,k,u,v,hi,hk,cF,n,hn=>by
  simp only[Ff,List.flatMap_cons,List.nodup_append]at O2;obtain⟨h1,h2,h3⟩:=O2;cases i with
  |zero =>
   cases k with
   |zero=>exact absurd rfl cF
   |succ k =>
    simp at hi hk;subst hi;intro hv;exact h3 n hn n (List.mem_flatMap.2 ⟨v,List.mem_of_getElem? hk,hv⟩) rfl
  |succ i =>
   cases k with
   |zero =>
    simp at hi hk;subst hk;intro hv;exact h3 n hv n (List.mem_flatMap.2 ⟨u,List.mem_of_getElem? hi,hn⟩) rfl
   |succ k=>exact O1 h2 (by simpa using hi) (by simpa using hk) (by omega) n hn
theorem O3{ps:List (Nat×Nat)}(iR:∀f k,look f ps=some k→pU P k f){os:Array Oper}{vs:List bI}{ids l:List Nat}{i:Nat}{o:Oper}{v:bI}{K:Act→World→Prop}{Q:Exit→Act→World→Prop}(bz:vr P ps E.nt os os.toList vs=true)(kq:CH vs ids=true)
  (hi:os[i]?=some o) (hv:vs[i]?=some v) (Ji:i∉l) (hC:oN P C) (hinv:Inv E vs ids l S a w) (aj:v.run C S=some S')
  (hK:∀a' w',Inv E vs ids (i::l) S' a' w'→K a' w'):wpOp P os Q i K a w:=by
 obtain⟨⟨g,hR⟩,hn⟩:=hinv;simp only[CH,Bool.and_eq_true,decide_eq_true_eq,List.all_eq_true,List.contains_eq_mem]at kq;have kO:=(AB bz).2 i o v (by simpa using hi) hv
 refine XW iR hi kO hC (fun n O4=>?_) hR aj fun g' a' w' jb=>hK a' w' ⟨⟨g',jb⟩,fun d hd Fh=>?_⟩
 ·refine hn n (kq.2 n (List.mem_flatMap.2 ⟨v,List.mem_of_getElem? hv,O4⟩)) (fun k hk u hu=>?_)
  exact O1 kq.1 hv hu (fun e=>Ji (e ▸ hk)) n O4
 ·exact XX kO hC hR (hn d hd fun k hk u hu=>Fh k (List.mem_cons_of_mem _ hk) u hu) (Fh i List.mem_cons_self v hv) aj
theorem O5{ps:List (Nat×Nat)}(iR:∀f k,look f ps=some k→pU P k f){os:Array Oper}{vs:List bI}{ids:List Nat}{Q:Exit→Act→World→Prop}(bz:vr P ps E.nt os os.toList vs=true)(kq:CH vs ids=true)(hC:oN P C){Sn:St}
  (hQ:∀g a w,R E g Sn a w→Q .normal a w):∀(n k:Nat) (S:St) (a:Act) (w:World),k+n=os.size→Inv E vs ids (List.range k) S a w→gO C (vs.drop k) S=some Sn→wpOps P os Q (List.range' k n) a w
 |0,k,S,a,w,hk,hinv,aj=>by
  have hlen:=(AB bz).1;simp only[Array.length_toList]at hlen;rw[List.drop_eq_nil_of_le (by omega)]at aj
  simp only[gO,Option.some.injEq]at aj;subst aj;obtain⟨⟨g,hR⟩,_⟩:=hinv;simp only[List.range'_zero,wpOps];exact hQ g a w hR
 |n+1,k,S,a,w,hk,hinv,aj=>by
  have hlen:=(AB bz).1;simp only[Array.length_toList]at hlen;have pP:k<vs.length:=by omega
  have fQ:k<os.size:=by omega
  rw[List.drop_eq_getElem_cons pP,gO]at aj;split at aj
  ·rename_i S' h1
   rw[List.range'_succ,wpOps_cons];refine O3 iR bz kq (Array.getElem?_eq_getElem fQ) (List.getElem?_eq_getElem pP) (by simp) hC hinv h1 fun a' w' Fi=>?_
   refine O5 iR bz kq hC hQ n (k+1) S' a' w' (by omega) ?_ aj
   refine⟨Fi.1,fun d hd Fh=>Fi.2 d hd fun j hj v hv=>Fh j ?_ v hv⟩;rcases List.mem_cons.1 hj with e|e
   ·subst e;simp
   ·simp at e ⊢;omega
  ·cases aj
end
end Go.Vm
