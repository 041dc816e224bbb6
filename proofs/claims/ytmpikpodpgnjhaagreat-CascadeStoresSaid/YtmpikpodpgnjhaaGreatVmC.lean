/- The value machine, 12: regions, in whatever order. -/
import Derived.Test.YtmpikpodpgnjhaaGreatVmB
namespace Go.Vm
set_option linter.all false
def OU(os:Array Oper)(o:Oper)(v:bN):Bool :=
 match o.guard,v.guard with
 |none,none=>true
 |some (j,w),some (s,w')=>(os[j]?).bind (·.dst)==some s&&w==w'
 |_,_=>false
def AE(P:Program)(ps:List (Nat×Nat))(nt:Nat)(os:Array Oper)(o:Oper)(v:bN):Bool :=
 v.dst==o.dst&&(match o.dst with|some d=>Nat.blt d nt|none=>true)&&v.op.clean&&IZ P ps o v.op&&OU os o v
def oj(P:Program)(C:bm):Prop:=∀f args G r G',C f args G=some (r,G')→sx P f args G r G'
section
variable {P:Program} {E:Entry} {g g':Gh} {S S':St} {a:Act} {w w':World} {d:Nat} {C:bm}
theorem ZD{ps:List (Nat×Nat)}(iq:∀f k,look f ps=some k→pB P k f){os:Array Oper}{i:Nat}{o:Oper}{v:bN}{K:Act→World→Prop}{Q:Exit→Act→World→Prop}(hi:os[i]?=some o)(bg:AE P ps E.nt os o v=true)(hC:oj P C)
  (hn:∀n∈v.op.names,S.ez n) (hR:R E g S a w) (ah:v.run C S=some S') (hK:∀g' a' w',R E g' S' a' w'→K a' w'):wpOp P os Q i K a w:=by
 simp only[AE,Bool.and_eq_true,beq_iff_eq]at bg;obtain⟨⟨⟨⟨h1,h2⟩,h3⟩,h4⟩,h5⟩:=bg;have hd:∀d,o.dst=some d→d<E.nt:=fun d hd=>by
  rw[hd]at h2;exact Nat.le_of_ble_eq_true h2
 have OV:∀{S'},v.op.run C v.dst S=some S'→b0 P E o S S' a w:=fun ah=>by
  rw[h1]at ah;refine Zm iq h4 hC hn (fun id x u vQ yw=>?_) hR hd ah;have c9:=h3;rw[vQ]at c9;exact m6 (hn id (by rw[vQ];simp[VO.names])) c9 yw
 unfold wpOp;simp only[hi];unfold bN.run at ah;unfold OU at h5;unfold Region.wanted;split at h5
 ·rename_i Av Cp
  rw[Cp]at ah;simp only[Av,if_true];exact .inl (OV ah K Q hK)
 ·rename_i j want s aks Av Cp
  simp only[Bool.and_eq_true,beq_iff_eq]at h5;obtain⟨hs,rfl⟩:=h5;rw[Cp]at ah;simp only at ah;simp only[Av];split at ah
  ·rename_i b hb
   obtain⟨x,hx,hr⟩:=hR.env s _ hb;have e:=wY hr;subst e;have hy:yielded os a.tmps j=some b:=by simp[yielded,hs,hx]
   rw[hy];cases yN:b==want with
   |true =>
    have:=eq_of_beq yN;subst this;simp only[yN,cond_true]at ah;simp only[beq_self_eq_true,if_true];exact .inl (OV ah K Q hK)
   |false =>
    simp only[yN,cond_false]at ah;cases ah;have:(some b==some want)=false:=by simpa using yN
    rw[this];simp only[Bool.false_eq_true,if_false];rw[h1]at hK;exact hK g _ _ (hR.put hd .undef)
  ·rename_i hb
   obtain⟨x,hx,hr⟩:=hR.env s _ hb;have e:x=undef:=by
    cases hr with
    |undef=>rfl
    |plain h _=>cases h
   subst e;have hy:yielded os a.tmps j=none:=by simp[yielded,hs,hx,undef]
   rw[hy];cases ah;simp only[Option.none_beq_some,Bool.false_eq_true,if_false];rw[h1]at hK;exact hK g _ _ (hR.put hd .undef)
  ·cases ah
 ·cases h5
theorem ZE{ps:List (Nat×Nat)}{o:Oper}{os:Array Oper}{v:bN}(bg:AE P ps E.nt os o v=true)(hC:oj P C)(hR:R E g S a w)(hn:S.ez d)(hd:d∉v.op.names)(ah:v.run C S=some S'):S'.ez d:=by
 simp only[AE,Bool.and_eq_true,beq_iff_eq]at bg;obtain⟨⟨⟨⟨h1,h2⟩,h3⟩,h4⟩,h5⟩:=bg;have vH:∀{S'},v.op.run C v.dst S=some S'→S'.ez d:=fun h=>ZB h3 (fun f args G r G' hc=>(hC f args G r G' hc).ret) hR hn hd h;unfold bN.run at ah;split at ah
 ·exact vH ah
 ·rename_i sl want _
  split at ah
  ·rename_i b hb
   cases yN:b==want with
   |true=>simp only[yN,cond_true]at ah;exact vH ah
   |false=>simp only[yN,cond_false]at ah;cases ah;exact ed hn rfl
  ·cases ah;exact ed hn rfl
  ·cases ah
def Inv(E:Entry)(vs:List bN)(ids:List Nat)(l:List Nat)(S:St)(a:Act)(w:World):Prop :=
 (∃g,R E g S a w)∧∀d∈ids,(∀k∈l,∀v,vs[k]?=some v→d∉v.op.names)→S.ez d
def Fa(vs:List bN):List Nat:=vs.flatMap (·.op.names)
def Cq(vs:List bN)(ids:List Nat):Bool:=decide (Fa vs).Nodup&&(Fa vs).all (ids.contains ·)
def vT(P:Program)(ps:List (Nat×Nat))(nt:Nat)(os:Array Oper):List Oper→List bN→Bool
 |[],[]=>true
 |o::r,v::vs=>AE P ps nt os o v&&vT P ps nt os r vs
 |_,_=>false
theorem AF{ps:List (Nat×Nat)}{nt:Nat}{os:Array Oper}:∀{r:List Oper} {vs:List bN},vT P ps nt os r vs=true→vs.length=r.length∧∀(i:Nat) o v,r[i]?=some o→vs[i]?=some v→AE P ps nt os o v=true
 |[],[],_=>by simp
 |[],_::_,h=>by simp[vT]at h
 |_::_,[],h=>by simp[vT]at h
 |o::r,v::vs,h=>by
  simp only[vT,Bool.and_eq_true]at h;obtain⟨p,q⟩:=AF h.2;refine⟨by simp[p],fun i o' v' ho hv=>?_⟩
  cases i with
  |zero=>simp at ho hv;subst ho;subst hv;exact h.1
  |succ i=>exact q i o' v' (by simpa using ho) (by simpa using hv)
theorem OW:∀{vs:List bN},(Fa vs).Nodup→∀{i k:Nat} {u v:bN},vs[i]?=some u→vs[k]?=some v→i≠k→∀n∈u.op.names,n∉v.op.names
 |[],_,i,k,u,v,hi,_,_,_,_=>by simp at hi
 |x::vs,Cr,i,k,u,v,hi,hk,ch,n,hn=>by
  simp only[Fa,List.flatMap_cons,List.nodup_append]at Cr;obtain⟨h1,h2,h3⟩:=Cr;cases i with
  |zero =>
   cases k with
   |zero=>exact absurd rfl ch
   |succ k =>
    simp at hi hk;subst hi;intro hv;exact h3 n hn n (List.mem_flatMap.2 ⟨v,List.mem_of_getElem? hk,hv⟩) rfl
  |succ i =>
   cases k with
   |zero =>
    simp at hi hk;subst hk;intro hv;exact h3 n hv n (List.mem_flatMap.2 ⟨u,List.mem_of_getElem? hi,hn⟩) rfl
   |succ k=>exact OW h2 (by simpa using hi) (by simpa using hk) (by omega) n hn
theorem OX{ps:List (Nat×Nat)}(iq:∀f k,look f ps=some k→pB P k f){os:Array Oper}{vs:List bN}{ids l:List Nat}{i:Nat}{o:Oper}{v:bN}{K:Act→World→Prop}{Q:Exit→Act→World→Prop}(bg:vT P ps E.nt os os.toList vs=true)(jY:Cq vs ids=true)
  (hi:os[i]?=some o) (hv:vs[i]?=some v) (Ja:i∉l) (hC:oj P C) (hinv:Inv E vs ids l S a w) (ah:v.run C S=some S')
  (hK:∀a' w',Inv E vs ids (i::l) S' a' w'→K a' w'):wpOp P os Q i K a w:=by
 obtain⟨⟨g,hR⟩,hn⟩:=hinv;simp only[Cq,Bool.and_eq_true,decide_eq_true_eq,List.all_eq_true,List.contains_eq_mem]at jY;have ky:=(AF bg).2 i o v (by simpa using hi) hv
 refine ZD iq hi ky hC (fun n OY=>?_) hR ah fun g' a' w' iF=>hK a' w' ⟨⟨g',iF⟩,fun d hd Fc=>?_⟩
 ·refine hn n (jY.2 n (List.mem_flatMap.2 ⟨v,List.mem_of_getElem? hv,OY⟩)) (fun k hk u hu=>?_)
  exact OW jY.1 hv hu (fun e=>Ja (e ▸ hk)) n OY
 ·exact ZE ky hC hR (hn d hd fun k hk u hu=>Fc k (List.mem_cons_of_mem _ hk) u hu) (Fc i List.mem_cons_self v hv) ah
theorem OZ{ps:List (Nat×Nat)}(iq:∀f k,look f ps=some k→pB P k f){os:Array Oper}{vs:List bN}{ids:List Nat}{Q:Exit→Act→World→Prop}(bg:vT P ps E.nt os os.toList vs=true)(jY:Cq vs ids=true)(hC:oj P C){Sn:St}
  (hQ:∀g a w,R E g Sn a w→Q .normal a w):∀(n k:Nat) (S:St) (a:Act) (w:World),k+n=os.size→Inv E vs ids (List.range k) S a w→fZ C (vs.drop k) S=some Sn→wpOps P os Q (List.range' k n) a w
 |0,k,S,a,w,hk,hinv,ah=>by
  have hlen:=(AF bg).1;simp only[Array.length_toList]at hlen;rw[List.drop_eq_nil_of_le (by omega)]at ah
  simp only[fZ,Option.some.injEq]at ah;subst ah;obtain⟨⟨g,hR⟩,_⟩:=hinv;simp only[List.range'_zero,wpOps];exact hQ g a w hR
 |n+1,k,S,a,w,hk,hinv,ah=>by
  have hlen:=(AF bg).1;simp only[Array.length_toList]at hlen;have pr:k<vs.length:=by omega
  have fh:k<os.size:=by omega
  rw[List.drop_eq_getElem_cons pr,fZ]at ah;split at ah
  ·rename_i S' h1
   rw[List.range'_succ,wpOps_cons];refine OX iq bg jY (Array.getElem?_eq_getElem fh) (List.getElem?_eq_getElem pr) (by simp) hC hinv h1 fun a' w' Fe=>?_
   refine OZ iq bg jY hC hQ n (k+1) S' a' w' (by omega) ?_ ah
   refine⟨Fe.1,fun d hd Fc=>Fe.2 d hd fun j hj v hv=>Fc j ?_ v hv⟩;rcases List.mem_cons.1 hj with e|e
   ·subst e;simp
   ·simp at e ⊢;omega
  ·cases ah
end
end Go.Vm
