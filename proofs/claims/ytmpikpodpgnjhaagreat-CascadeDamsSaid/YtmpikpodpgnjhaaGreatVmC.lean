/- The value machine, 12: regions, in whatever order. -/
import Derived.Test.YtmpikpodpgnjhaaGreatVmB
namespace Go.Vm
set_option linter.all false
def O0(os:Array Oper)(o:Oper)(v:bI):Bool :=
 match o.guard,v.guard with
 |none,none=>true
 |some (j,w),some (s,w')=>(os[j]?).bind (·.dst)==some s&&w==w'
 |_,_=>false
def Az(P:Program)(ps:List (Nat×Nat))(nt:Nat)(os:Array Oper)(o:Oper)(v:bI):Bool :=
 v.dst==o.dst&&(match o.dst with|some d=>Nat.blt d nt|none=>true)&&v.op.clean&&I5 P ps o v.op&&O0 os o v
def oR(P:Program)(C:bC):Prop:=∀f args G r G',C f args G=some (r,G')→sa P f args G r G'
section
variable {P:Program} {E:Entry} {g g':Gh} {S S':St} {a:Act} {w w':World} {d:Nat} {C:bC}
theorem XT{ps:List (Nat×Nat)}(iU:∀f k,look f ps=some k→pU P k f){os:Array Oper}{i:Nat}{o:Oper}{v:bI}{K:Act→World→Prop}{Q:Exit→Act→World→Prop}(hi:os[i]?=some o)(bz:Az P ps E.nt os o v=true)(hC:oR P C)
  (hn:∀n∈v.op.names,S.eV n) (hR:R E g S a w) (aj:v.run C S=some S') (hK:∀g' a' w',R E g' S' a' w'→K a' w'):wpOp P os Q i K a w:=by
 simp only[Az,Bool.and_eq_true,beq_iff_eq]at bz;obtain⟨⟨⟨⟨h1,h2⟩,h3⟩,h4⟩,h5⟩:=bz;have hd:∀d,o.dst=some d→d<E.nt:=fun d hd=>by
  rw[hd]at h2;exact Nat.le_of_ble_eq_true h2
 have O1:∀{S'},v.op.run C v.dst S=some S'→ct P E o S S' a w:=fun aj=>by
  rw[h1]at aj;refine XC iU h4 hC hn (fun id x u vr xR=>?_) hR hd aj;have dD:=h3;rw[vr]at dD;exact nn (hn id (by rw[vr];simp[VO.names])) dD xR
 unfold wpOp;simp only[hi];unfold bI.run at aj;unfold O0 at h5;unfold Region.wanted;split at h5
 ·rename_i Ar CC
  rw[CC]at aj;simp only[Ar,if_true];exact .inl (O1 aj K Q hK)
 ·rename_i j want s akN Ar CC
  simp only[Bool.and_eq_true,beq_iff_eq]at h5;obtain⟨hs,rfl⟩:=h5;rw[CC]at aj;simp only at aj;simp only[Ar];split at aj
  ·rename_i b hb
   obtain⟨x,hx,hr⟩:=hR.env s _ hb;have e:=wG hr;subst e;have hy:yielded os a.tmps j=some b:=by simp[yielded,hs,hx]
   rw[hy];cases yr:b==want with
   |true =>
    have:=eq_of_beq yr;subst this;simp only[yr,cond_true]at aj;simp only[beq_self_eq_true,if_true];exact .inl (O1 aj K Q hK)
   |false =>
    simp only[yr,cond_false]at aj;cases aj;have:(some b==some want)=false:=by simpa using yr
    rw[this];simp only[Bool.false_eq_true,if_false];rw[h1]at hK;exact hK g _ _ (hR.put hd .undef)
  ·rename_i hb
   obtain⟨x,hx,hr⟩:=hR.env s _ hb;have e:x=undef:=by
    cases hr with
    |undef=>rfl
    |plain h _=>cases h
   subst e;have hy:yielded os a.tmps j=none:=by simp[yielded,hs,hx,undef]
   rw[hy];cases aj;simp only[Option.none_beq_some,Bool.false_eq_true,if_false];rw[h1]at hK;exact hK g _ _ (hR.put hd .undef)
  ·cases aj
 ·cases h5
theorem XU{ps:List (Nat×Nat)}{o:Oper}{os:Array Oper}{v:bI}(bz:Az P ps E.nt os o v=true)(hC:oR P C)(hR:R E g S a w)(hn:S.eV d)(hd:d∉v.op.names)(aj:v.run C S=some S'):S'.eV d:=by
 simp only[Az,Bool.and_eq_true,beq_iff_eq]at bz;obtain⟨⟨⟨⟨h1,h2⟩,h3⟩,h4⟩,h5⟩:=bz;have vi:∀{S'},v.op.run C v.dst S=some S'→S'.eV d:=fun h=>XR h3 (fun f args G r G' hc=>(hC f args G r G' hc).ret) hR hn hd h;unfold bI.run at aj;split at aj
 ·exact vi aj
 ·rename_i sl want _
  split at aj
  ·rename_i b hb
   cases yr:b==want with
   |true=>simp only[yr,cond_true]at aj;exact vi aj
   |false=>simp only[yr,cond_false]at aj;cases aj;exact eF hn rfl
  ·cases aj;exact eF hn rfl
  ·cases aj
def Inv(E:Entry)(vs:List bI)(ids:List Nat)(l:List Nat)(S:St)(a:Act)(w:World):Prop :=
 (∃g,R E g S a w)∧∀d∈ids,(∀k∈l,∀v,vs[k]?=some v→d∉v.op.names)→S.eV d
def Fc(vs:List bI):List Nat:=vs.flatMap (·.op.names)
def CD(vs:List bI)(ids:List Nat):Bool:=decide (Fc vs).Nodup&&(Fc vs).all (ids.contains ·)
def vt(P:Program)(ps:List (Nat×Nat))(nt:Nat)(os:Array Oper):List Oper→List bI→Bool
 |[],[]=>true
 |o::r,v::vs=>Az P ps nt os o v&&vt P ps nt os r vs
 |_,_=>false
theorem AA{ps:List (Nat×Nat)}{nt:Nat}{os:Array Oper}:∀{r:List Oper} {vs:List bI},vt P ps nt os r vs=true→vs.length=r.length∧∀(i:Nat) o v,r[i]?=some o→vs[i]?=some v→Az P ps nt os o v=true
 |[],[],_=>by simp
 |[],_::_,h=>by simp[vt]at h
 |_::_,[],h=>by simp[vt]at h
 |o::r,v::vs,h=>by
  simp only[vt,Bool.and_eq_true]at h;obtain⟨p,q⟩:=AA h.2;refine⟨by simp[p],fun i o' v' ho hv=>?_⟩
  cases i with
  |zero=>simp at ho hv;subst ho;subst hv;exact h.1
  |succ i=>exact q i o' v' (by simpa using ho) (by simpa using hv)
theorem O2:∀{vs:List bI},(Fc vs).Nodup→∀{i k:Nat} {u v:bI},vs[i]?=some u→vs[k]?=some v→i≠k→∀n∈u.op.names,n∉v.op.names
 |[],_,i,k,u,v,hi,_,_,_,_=>by simp at hi
 |x::vs,O3,i,k,u,v,hi,hk,cF,n,hn=>by
  simp only[Fc,List.flatMap_cons,List.nodup_append]at O3;obtain⟨h1,h2,h3⟩:=O3;cases i with
  |zero =>
   cases k with
   |zero=>exact absurd rfl cF
   |succ k =>
    simp at hi hk;subst hi;intro hv;exact h3 n hn n (List.mem_flatMap.2 ⟨v,List.mem_of_getElem? hk,hv⟩) rfl
  |succ i =>
   cases k with
   |zero =>
    simp at hi hk;subst hk;intro hv;exact h3 n hv n (List.mem_flatMap.2 ⟨u,List.mem_of_getElem? hi,hn⟩) rfl
   |succ k=>exact O2 h2 (by simpa using hi) (by simpa using hk) (by omega) n hn
theorem O4{ps:List (Nat×Nat)}(iU:∀f k,look f ps=some k→pU P k f){os:Array Oper}{vs:List bI}{ids l:List Nat}{i:Nat}{o:Oper}{v:bI}{K:Act→World→Prop}{Q:Exit→Act→World→Prop}(bz:vt P ps E.nt os os.toList vs=true)(kr:CD vs ids=true)
  (hi:os[i]?=some o) (hv:vs[i]?=some v) (Jh:i∉l) (hC:oR P C) (hinv:Inv E vs ids l S a w) (aj:v.run C S=some S')
  (hK:∀a' w',Inv E vs ids (i::l) S' a' w'→K a' w'):wpOp P os Q i K a w:=by
 obtain⟨⟨g,hR⟩,hn⟩:=hinv;simp only[CD,Bool.and_eq_true,decide_eq_true_eq,List.all_eq_true,List.contains_eq_mem]at kr;have kP:=(AA bz).2 i o v (by simpa using hi) hv
 refine XT iU hi kP hC (fun n O5=>?_) hR aj fun g' a' w' je=>hK a' w' ⟨⟨g',je⟩,fun d hd Ff=>?_⟩
 ·refine hn n (kr.2 n (List.mem_flatMap.2 ⟨v,List.mem_of_getElem? hv,O5⟩)) (fun k hk u hu=>?_)
  exact O2 kr.1 hv hu (fun e=>Jh (e ▸ hk)) n O5
 ·exact XU kP hC hR (hn d hd fun k hk u hu=>Ff k (List.mem_cons_of_mem _ hk) u hu) (Ff i List.mem_cons_self v hv) aj
theorem O6{ps:List (Nat×Nat)}(iU:∀f k,look f ps=some k→pU P k f){os:Array Oper}{vs:List bI}{ids:List Nat}{Q:Exit→Act→World→Prop}(bz:vt P ps E.nt os os.toList vs=true)(kr:CD vs ids=true)(hC:oR P C){Sn:St}
  (hQ:∀g a w,R E g Sn a w→Q .normal a w):∀(n k:Nat) (S:St) (a:Act) (w:World),k+n=os.size→Inv E vs ids (List.range k) S a w→gQ C (vs.drop k) S=some Sn→wpOps P os Q (List.range' k n) a w
 |0,k,S,a,w,hk,hinv,aj=>by
  have hlen:=(AA bz).1;simp only[Array.length_toList]at hlen;rw[List.drop_eq_nil_of_le (by omega)]at aj
  simp only[gQ,Option.some.injEq]at aj;subst aj;obtain⟨⟨g,hR⟩,_⟩:=hinv;simp only[List.range'_zero,wpOps];exact hQ g a w hR
 |n+1,k,S,a,w,hk,hinv,aj=>by
  have hlen:=(AA bz).1;simp only[Array.length_toList]at hlen;have pP:k<vs.length:=by omega
  have fQ:k<os.size:=by omega
  rw[List.drop_eq_getElem_cons pP,gQ]at aj;split at aj
  ·rename_i S' h1
   rw[List.range'_succ,wpOps_cons];refine O4 iU bz kr (Array.getElem?_eq_getElem fQ) (List.getElem?_eq_getElem pP) (by simp) hC hinv h1 fun a' w' Fg=>?_
   refine O6 iU bz kr hC hQ n (k+1) S' a' w' (by omega) ?_ aj
   refine⟨Fg.1,fun d hd Ff=>Fg.2 d hd fun j hj v hv=>Ff j ?_ v hv⟩;rcases List.mem_cons.1 hj with e|e
   ·subst e;simp
   ·simp at e ⊢;omega
  ·cases aj
end
end Go.Vm
