/- The value machine, 12: regions, in whatever order. -/
import Derived.Test.YtocclbnghhaejaaGreatVmB
namespace Go.Vm
set_option linter.all false
def R0(os:Array Oper)(o:Oper)(v:bH):Bool :=
 match o.guard,v.guard with
 |none,none=>true
 |some (j,w),some (s,w')=>(os[j]?).bind (·.dst)==some s&&w==w'
 |_,_=>false
def CK(P:Program)(ps:List (Nat×Nat))(nt:Nat)(os:Array Oper)(o:Oper)(v:bH):Bool :=
 v.dst==o.dst&&(match o.dst with|some d=>Nat.blt d nt|none=>true)&&v.op.clean&&LB P ps o v.op&&R0 os o v
def oD(P:Program)(C:bw):Prop:=∀f args G r G',C f args G=some (r,G')→tL P f args G r G'
section
variable {P:Program} {E:Entry} {g g':Gh} {S S':St} {a:Act} {w w':World} {d:Nat} {C:bw}
theorem adM{ps:List (Nat×Nat)}(iY:∀f k,look f ps=some k→qD P k f){os:Array Oper}{i:Nat}{o:Oper}{v:bH}{K:Act→World→Prop}{Q:Exit→Act→World→Prop}(hi:os[i]?=some o)(bn:CK P ps E.nt os o v=true)(hC:oD P C)
  (hn:∀n∈v.op.names,S.eG n) (hR:R E g S a w) (ah:v.run C S=some S') (hK:∀g' a' w',R E g' S' a' w'→K a' w'):wpOp P os Q i K a w:=by
 simp only[CK,Bool.and_eq_true,beq_iff_eq]at bn;obtain⟨⟨⟨⟨h1,h2⟩,h3⟩,h4⟩,h5⟩:=bn;have hd:∀d,o.dst=some d→d<E.nt:=fun d hd=>by
  rw[hd]at h2;exact Nat.le_of_ble_eq_true h2
 have R1:∀{S'},v.op.run C v.dst S=some S'→cb P E o S S' a w:=fun ah=>by
  rw[h1]at ah;refine adv iY h4 hC hn (fun id x u xo w6=>?_) hR hd ah;have dw:=h3;rw[xo]at dw;exact ni (hn id (by rw[xo];simp[VO.names])) dw w6
 unfold wpOp;simp only[hi];unfold bH.run at ah;unfold R0 at h5;unfold Region.wanted;split at h5
 ·rename_i CF EO
  rw[EO]at ah;simp only[CF,if_true];exact .inl (R1 ah K Q hK)
 ·rename_i j want s aqr CF EO
  simp only[Bool.and_eq_true,beq_iff_eq]at h5;obtain⟨hs,rfl⟩:=h5;rw[EO]at ah;simp only at ah;simp only[CF];split at ah
  ·rename_i b hb
   obtain⟨x,hx,hr⟩:=hR.env s _ hb;have e:=yS hr;subst e;have hy:yielded os a.tmps j=some b:=by simp[yielded,hs,hx]
   rw[hy];cases AV:b==want with
   |true =>
    have:=eq_of_beq AV;subst this;simp only[AV,cond_true]at ah;simp only[beq_self_eq_true,if_true];exact .inl (R1 ah K Q hK)
   |false =>
    simp only[AV,cond_false]at ah;cases ah;have:(some b==some want)=false:=by simpa using AV
    rw[this];simp only[Bool.false_eq_true,if_false];rw[h1]at hK;exact hK g _ _ (hR.put hd .undef)
  ·rename_i hb
   obtain⟨x,hx,hr⟩:=hR.env s _ hb;have e:x=undef:=by
    cases hr with
    |undef=>rfl
    |plain h _=>cases h
   subst e;have hy:yielded os a.tmps j=none:=by simp[yielded,hs,hx,undef]
   rw[hy];cases ah;simp only[Option.none_beq_some,Bool.false_eq_true,if_false];rw[h1]at hK;exact hK g _ _ (hR.put hd .undef)
  ·cases ah
 ·cases h5
theorem adN{ps:List (Nat×Nat)}{o:Oper}{os:Array Oper}{v:bH}(bn:CK P ps E.nt os o v=true)(hC:oD P C)(hR:R E g S a w)(hn:S.eG d)(hd:d∉v.op.names)(ah:v.run C S=some S'):S'.eG d:=by
 simp only[CK,Bool.and_eq_true,beq_iff_eq]at bn;obtain⟨⟨⟨⟨h1,h2⟩,h3⟩,h4⟩,h5⟩:=bn;have xf:∀{S'},v.op.run C v.dst S=some S'→S'.eG d:=fun h=>adK h3 (fun f args G r G' hc=>(hC f args G r G' hc).ret) hR hn hd h;unfold bH.run at ah;split at ah
 ·exact xf ah
 ·rename_i sl want _
  split at ah
  ·rename_i b hb
   cases AV:b==want with
   |true=>simp only[AV,cond_true]at ah;exact xf ah
   |false=>simp only[AV,cond_false]at ah;cases ah;exact eg hn rfl
  ·cases ah;exact eg hn rfl
  ·cases ah
def Inv(E:Entry)(vs:List bH)(ids:List Nat)(l:List Nat)(S:St)(a:Act)(w:World):Prop :=
 (∃g,R E g S a w)∧∀d∈ids,(∀k∈l,∀v,vs[k]?=some v→d∉v.op.names)→S.eG d
def HQ(vs:List bH):List Nat:=vs.flatMap (·.op.names)
def EP(vs:List bH)(ids:List Nat):Bool:=decide (HQ vs).Nodup&&(HQ vs).all (ids.contains ·)
def xp(P:Program)(ps:List (Nat×Nat))(nt:Nat)(os:Array Oper):List Oper→List bH→Bool
 |[],[]=>true
 |o::r,v::vs=>CK P ps nt os o v&&xp P ps nt os r vs
 |_,_=>false
theorem CL{ps:List (Nat×Nat)}{nt:Nat}{os:Array Oper}:∀{r:List Oper} {vs:List bH},xp P ps nt os r vs=true→vs.length=r.length∧∀(i:Nat) o v,r[i]?=some o→vs[i]?=some v→CK P ps nt os o v=true
 |[],[],_=>by simp
 |[],_::_,h=>by simp[xp]at h
 |_::_,[],h=>by simp[xp]at h
 |o::r,v::vs,h=>by
  simp only[xp,Bool.and_eq_true]at h;obtain⟨p,q⟩:=CL h.2;refine⟨by simp[p],fun i o' v' ho hv=>?_⟩
  cases i with
  |zero=>simp at ho hv;subst ho;subst hv;exact h.1
  |succ i=>exact q i o' v' (by simpa using ho) (by simpa using hv)
theorem R2:∀{vs:List bH},(HQ vs).Nodup→∀{i k:Nat} {u v:bH},vs[i]?=some u→vs[k]?=some v→i≠k→∀n∈u.op.names,n∉v.op.names
 |[],_,i,k,u,v,hi,_,_,_,_=>by simp at hi
 |x::vs,R3,i,k,u,v,hi,hk,cg,n,hn=>by
  simp only[HQ,List.flatMap_cons,List.nodup_append]at R3;obtain⟨h1,h2,h3⟩:=R3;cases i with
  |zero =>
   cases k with
   |zero=>exact absurd rfl cg
   |succ k =>
    simp at hi hk;subst hi;intro hv;exact h3 n hn n (List.mem_flatMap.2 ⟨v,List.mem_of_getElem? hk,hv⟩) rfl
  |succ i =>
   cases k with
   |zero =>
    simp at hi hk;subst hk;intro hv;exact h3 n hv n (List.mem_flatMap.2 ⟨u,List.mem_of_getElem? hi,hn⟩) rfl
   |succ k=>exact R2 h2 (by simpa using hi) (by simpa using hk) (by omega) n hn
theorem R4{ps:List (Nat×Nat)}(iY:∀f k,look f ps=some k→qD P k f){os:Array Oper}{vs:List bH}{ids l:List Nat}{i:Nat}{o:Oper}{v:bH}{K:Act→World→Prop}{Q:Exit→Act→World→Prop}(bn:xp P ps E.nt os os.toList vs=true)(kN:EP vs ids=true)
  (hi:os[i]?=some o) (hv:vs[i]?=some v) (HS:i∉l) (hC:oD P C) (hinv:Inv E vs ids l S a w) (ah:v.run C S=some S')
  (hK:∀a' w',Inv E vs ids (i::l) S' a' w'→K a' w'):wpOp P os Q i K a w:=by
 obtain⟨⟨g,hR⟩,hn⟩:=hinv;simp only[EP,Bool.and_eq_true,decide_eq_true_eq,List.all_eq_true,List.contains_eq_mem]at kN;have lh:=(CL bn).2 i o v (by simpa using hi) hv
 refine adM iY hi lh hC (fun n R5=>?_) hR ah fun g' a' w' jj=>hK a' w' ⟨⟨g',jj⟩,fun d hd HT=>?_⟩
 ·refine hn n (kN.2 n (List.mem_flatMap.2 ⟨v,List.mem_of_getElem? hv,R5⟩)) (fun k hk u hu=>?_)
  exact R2 kN.1 hv hu (fun e=>HS (e ▸ hk)) n R5
 ·exact adN lh hC hR (hn d hd fun k hk u hu=>HT k (List.mem_cons_of_mem _ hk) u hu) (HT i List.mem_cons_self v hv) ah
theorem R6{ps:List (Nat×Nat)}(iY:∀f k,look f ps=some k→qD P k f){os:Array Oper}{vs:List bH}{ids:List Nat}{Q:Exit→Act→World→Prop}(bn:xp P ps E.nt os os.toList vs=true)(kN:EP vs ids=true)(hC:oD P C){Sn:St}
  (hQ:∀g a w,R E g Sn a w→Q .normal a w):∀(n k:Nat) (S:St) (a:Act) (w:World),k+n=os.size→Inv E vs ids (List.range k) S a w→gL C (vs.drop k) S=some Sn→wpOps P os Q (List.range' k n) a w
 |0,k,S,a,w,hk,hinv,ah=>by
  have hlen:=(CL bn).1;simp only[Array.length_toList]at hlen;rw[List.drop_eq_nil_of_le (by omega)]at ah
  simp only[gL,Option.some.injEq]at ah;subst ah;obtain⟨⟨g,hR⟩,_⟩:=hinv;simp only[List.range'_zero,wpOps];exact hQ g a w hR
 |n+1,k,S,a,w,hk,hinv,ah=>by
  have hlen:=(CL bn).1;simp only[Array.length_toList]at hlen;have qx:k<vs.length:=by omega
  have fS:k<os.size:=by omega
  rw[List.drop_eq_getElem_cons qx,gL]at ah;split at ah
  ·rename_i S' h1
   rw[List.range'_succ,wpOps_cons];refine R4 iY bn kN (Array.getElem?_eq_getElem fS) (List.getElem?_eq_getElem qx) (by simp) hC hinv h1 fun a' w' HU=>?_
   refine R6 iY bn kN hC hQ n (k+1) S' a' w' (by omega) ?_ ah
   refine⟨HU.1,fun d hd HT=>HU.2 d hd fun j hj v hv=>HT j ?_ v hv⟩;rcases List.mem_cons.1 hj with e|e
   ·subst e;simp
   ·simp at e ⊢;omega
  ·cases ah
end
end Go.Vm
