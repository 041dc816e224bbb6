/- The value machine, 19: what a call's arguments are, by value. -/
import Derived.Test.YtcelmhaoipbdiaaGreatVmI
import Derived.ProofKit
namespace Go.Vm
set_option linter.all false
open Go.ChangeShapes
section
variable {H:Type} {enc:TypeId×Value→H} {P:Program} {w:World} {base:Nat} {spare:Nat→Bool} {held:Bool}
def Ap(h:Array Obj)(b:Nat):Nat :=
 match h[b]? with
 |some (.cells c _ _)=>c.size
 |_=>0
def mG(P:Program):Nat→TypeId→List V→DataW H→Prop
 |0,_,_,_=>False
 |d+1,t,vs,x=>match P.underlying t with
  |some .bool=>∃b,vs=[.bool b]∧x=.lit (.bool b)
  |some (.int k)=>∃n,vs=[.int k n]∧(Lit.int k n).wf=true∧x=.lit (.int k n)
  |some .string=>∃s,vs=[.str s]∧x=.lit (.string s)
  |some (.slice e)=>∃es xs,vs=[.slice none (P.cellsOf e) es]∧((∃sp,x=.slice xs sp)∨(xs=[]∧x=.nil))∧es.length≤9223372036854775807∧es.length=xs.length ∧
    ∀(i:Nat) row y,es[i]?=some row→xs[i]?=some y→row.length=P.cellsOf e∧mG P d e row y
  |some (.struct fs)=>∃xs:List (DataW H),x=.agg xs∧xs.length=fs.size∧vs.length=P.cellsOf t∧∀(i:Nat) f y,fs[i]?=some f→xs[i]?=some y→mG P d f.type ((vs.drop f.offset).take (P.cellsOf f.type)) y
  |_=>False
def BT(P:Program):Nat→List Field→Nat→Bool
 |off,[],n=>off==n
 |off,f::fs,n=>f.offset==off&&BT P (off+P.cellsOf f.type) fs n
def uQ(P:Program):Nat→TypeId→Bool
 |0,_=>false
 |d+1,t=>match P.underlying t with
  |some .bool|some (.int _)|some .string=>true
  |some (.slice e)=>Nat.blt 0 (P.cellsOf e)&&uQ P d e
  |some (.struct fs)=>fs.toList.all (fun f=>uQ P d f.type)&&BT P 0 fs.toList (P.cellsOf t)
  |_=>false
def xq(w:World)(vs:List V)(cs:List Value):Prop :=
 vs.length=cs.length∧∀(j:Nat) (v:V) (y:Value),vs[j]?=some v→cs[j]?=some y→fF w.heap (Ap w.heap) v y∧v.plain=true
theorem xq.one{v:V}{y:Value}(h:fF w.heap (Ap w.heap) v y)(hp:v.plain=true):xq w [v] [y] :=
 ⟨rfl,fun j u z hu hz=>by
  cases j with
  |zero=>simp at hu hz;subst hu;subst hz;exact⟨h,hp⟩
  |succ j=>simp at hu⟩
theorem xq.append{vs us:List V}{cs ds:List Value}(h1:xq w vs cs)(h2:xq w us ds):xq w (vs++us) (cs++ds):=by
 refine⟨by simp[h1.1,h2.1],fun j v y hv hy=>?_⟩
 rcases cM j vs.length with h|h
 ·rw[ux h]at hv
  rw[ux (by have:=h1.1;omega)]at hy
  exact h1.2 j v y hv hy
 ·rw[wL h]at hv
  rw[wL (by have:=h1.1;omega),← h1.1]at hy
  exact h2.2 _ v y hv hy
theorem cells?_get{a:Addr}{n:Nat}{cs:List Value}(h:w.cells? base a n=some cs):cs.length=n∧∀(j:Nat) (y:Value),cs[j]?=some y→w.cell? (a.add j)=some y:=by
 unfold World.cells? at h;split at h
 ·have hl:=mapM_some_length h
  simp only[Pj]at hl;refine⟨hl,fun j y hy=>?_⟩;have hj:j<n:=by rw[←hl];exact fa hy
  have:=mapM_some_get h j j (by simp[hj])
  rw[this,hy]
 ·cases h
theorem YQ:∀{fs:List Field} {off n:Nat} {cs:List Value} (Q:Nat→Field→List V→Prop),BT P off fs n=true→cs.length=n →
  (∀(i:Nat) g,fs[i]?=some g→∃vs,xq w vs ((cs.drop g.offset).take (P.cellsOf g.type))∧Q i g vs)→off≤n →
  ∃vs,xq w vs (cs.drop off)∧∀(i:Nat) g,fs[i]?=some g→off≤g.offset∧Q i g ((vs.drop (g.offset-off)).take (P.cellsOf g.type))
 |[],off,n,cs,Q,ht,hl,_,_=>by
  simp only[BT,eg]at ht;refine⟨[],⟨by simp;omega,by simp⟩,by simp⟩
 |g::fs,off,n,cs,Q,ht,hl,h,hle=>by
  simp only[BT,b8,eg]at ht;obtain⟨ho,ht⟩:=ht;obtain⟨us,hu,hq⟩:=h 0 g rfl;have ak9:off+P.cellsOf g.type≤n:=by
   have:∀{fs:List Field} {off n:Nat},BT P off fs n=true→off≤n:=by
    intro fs;induction fs with
    |nil=>intro off n h;simp[BT]at h;omega
    |cons x r ih =>
     intro off n h;simp only[BT,b8,eg]at h;have:=ih h.2;omega
   exact this ht
  obtain⟨vs,hv,hr⟩:=YQ (fun i=>Q (i+1)) ht hl (fun i g' hg=>h (i+1) g' hg) ak9;have Aa:us.length=P.cellsOf g.type:=by rw[hu.1];simp;omega
  refine⟨us++vs,?_,fun i g' hg=>?_⟩
  ·have:=hu.append hv
   rw[ho]at this;have e:(cs.drop off).take (P.cellsOf g.type)++cs.drop (off+P.cellsOf g.type)=cs.drop off:=by
    rw[←zI];exact List.take_append_drop _ _
   rw[e]at this;exact this
  ·cases i with
   |zero =>
    simp at hg;subst hg;refine⟨by omega,?_⟩
    rw[ho,qd,vn,← Aa,List.take_left];exact hq
   |succ i =>
    obtain⟨h1,h2⟩:=hr i g' (by simpa using hg)
    refine⟨by omega,?_⟩
    have e:(us++vs).drop (g'.offset-off)=vs.drop (g'.offset-(off+P.cellsOf g.type)):=by
     have:(us++vs).drop (us.length+(g'.offset-(off+P.cellsOf g.type)))=vs.drop (g'.offset-(off+P.cellsOf g.type)):=List.drop_length_add_append ..;rw[←this];congr 1;omega
    rw[e];exact h2
theorem Rb{a:Addr}{y:Value}(h:w.cell? a=some y):a.spot=none∧cellAt w.heap a.block a.off=some y∧a.block<w.heap.size∧a.off<Ap w.heap a.block:=by
 unfold World.cell? at h;unfold cellAt Ap;split at h
 ·rename_i c e fz hb
  have bI:a.block<w.heap.size:=by
   rcases cM a.block w.heap.size with h' | h'
   ·exact h'
   ·simp[nb h']at hb
  simp only[hb];cases hs:a.spot with
  |some s=>simp[hs]at h
  |none =>
   simp only[hs,Option.isSome_none,Hb,if_false]at h;exact⟨rfl,h,bI,(wJ.1 h).1⟩
 ·cases h
theorem Re:∀(d fuel:Nat) (t:TypeId) (cs:List Value) (x:DataW H×List MemPlace),uQ P d t=true→DataW.trod enc P w base spare held fuel t cs=some x →
  ∃vs,xq w vs cs∧mG P d t vs x.1
 |0,_,_,_,_,h,_=>by simp[uQ]at h
 |d+1,fuel,t,cs,x,hp,h=>by
  unfold uQ at hp;unfold mG;split at hp
  ·rename_i ht
   obtain⟨b,rfl,rfl⟩:=DataW.trod_bool ht h;exact⟨[.bool b],.one (.bool b) rfl,by exact⟨b,rfl,rfl⟩⟩
  ·rename_i k ht
   obtain⟨n,rfl,rfl,hw⟩:=DataW.trod_int ht h;exact⟨[.int k n],.one (.int k n) rfl,by exact⟨n,rfl,hw,rfl⟩⟩
  ·rename_i ht
   obtain⟨s,rfl,rfl,_⟩:=DataW.trod_string ht h;exact⟨[.str s.data.toList],.one (.str s) rfl,by exact⟨_,rfl,rfl⟩⟩
  ·rename_i e ht
   simp only[b8]at hp;obtain⟨hn,hp⟩:=hp;have hn:0<P.cellsOf e:=jk hn;rcases DataW.trod_slice ht h with⟨rfl,rfl⟩ | ⟨a,len,cap,elems,rest,n,_,rfl,rfl,hb,hl,hm,hlen,wZ,ib,YR⟩
   ·exact⟨[.slice none (P.cellsOf e) []],.one (.nil _ _) rfl,by exact⟨[],[],rfl,.inr ⟨rfl,rfl⟩,by simp,rfl,by simp⟩⟩
   ·have each:∀i,∃r:List V×List Value,i<len→w.cells? base (a.add (i*P.cellsOf e)) (P.cellsOf e)=some r.2∧xq w r.1 r.2∧∀y,elems[i]?=some y→mG P d e r.1 y.1:=fun i=>by
     by_cases hi:i<len
     ·have h1:=wZ i hi
      rw[g8 (by omega),Option.bind_eq_some_iff]at h1
      obtain⟨ei,eX,hy⟩:=h1;obtain⟨vs,hv,hq⟩:=Re d n e ei _ hp hy;refine⟨(vs,ei),fun _=>⟨eX,hv,fun y hy=>?_⟩⟩;rw[g8 (by omega)]at hy
      cases hy;exact hq
     ·exact⟨([],[]),fun h=>absurd h hi⟩
    obtain⟨r,hr⟩:=Classical.axiomOfChoice each;have jc:∀i,i<len→(r i).1.length=P.cellsOf e:=fun i hi=>by rw[(hr i hi).2.1.1];exact(cells?_get (hr i hi).1).1
    have qO:∀(i:Nat) (row:List V),((List.range len).map fun i=>(r i).1)[i]?=some row→i<len∧row=(r i).1:=fun i row h=>by
     have h1:=fa h;simp at h1;simp[h1]at h;exact⟨h1,h.symm⟩
    refine⟨[.slice none (P.cellsOf e) ((List.range len).map fun i=>(r i).1)],.one ?_ rfl,?_⟩
    ·rcases nG len with h0|h0
     ·subst h0;exact .empty _ _ a cap
     ·have cell:∀i j,i<len→j<P.cellsOf e→w.cell? ((a.add (i*P.cellsOf e)).add j)=some ((r i).2.getD j undef):=fun i j hi hj=>by
       obtain⟨h1,h2⟩:=cells?_get (hr i hi).1;have:j<(r i).2.length:=by omega
       refine h2 j _ ?_;simp[this]
      obtain⟨q1,_⟩:=Rb (cell 0 0 h0 hn);obtain⟨ab,ao,as⟩:=a;have q1:as=none:=by simpa [Addr.add] using q1
      subst q1;simp only[lg]at cell;obtain⟨_,q2,q3,q4⟩:=Rb (cell (len-1) (P.cellsOf e-1) (by omega) (by omega))
      simp only at q2 q3 q4;have hmul:(len-1)*P.cellsOf e+P.cellsOf e=len*P.cellsOf e:=by
       rw[←oI];congr 1;omega
      have:=fF.slice (h:=w.heap) (m:=Ap w.heap) none (P.cellsOf e) ((List.range len).map fun i=>(r i).1) ab ao cap (fun i j=>(r i).2.getD j undef) q3 (by simpa using hl)
       (fun i row hi=>by obtain⟨h1,rfl⟩:=qO i row hi;exact jc i h1)
       (fun i row j v hi hj=>by
        obtain⟨h1,rfl⟩:=qO i row hi;have h2:=fa hj;rw[jc i h1]at h2;exact(Rb (cell i j h1 h2)).2.1)
       (fun i row j v hi hj=>by
        obtain⟨h1,rfl⟩:=qO i row hi;have h2:=fa hj;rw[(hr i h1).2.1.1]at h2;exact((hr i h1).2.1.2 j v _ hj (by simp[h2])).1)
       (fun i row j v hi hj=>by
        obtain⟨h1,rfl⟩:=qO i row hi;have h2:=fa hj;rw[(hr i h1).2.1.1]at h2;exact((hr i h1).2.1.2 j v ((r i).2.getD j undef) hj (by simp[h2])).2)
       (by simp only[zJ,Pj];omega)
      simpa using this
    ·refine⟨_,elems.map (·.1),rfl,.inl ⟨_,rfl⟩,by have:maxLen=9223372036854775807:=rfl;simp;omega,by simp[hlen],fun i row y hi hy=>?_⟩
     obtain⟨h1,rfl⟩:=qO i row hi;simp only[vp,EP]at hy;obtain⟨z,hz,rfl⟩:=hy;exact⟨jc i h1,(hr i h1).2.2 z hz⟩
  ·rename_i fs ht
   simp only[b8,iL]at hp;obtain⟨xs,n,_,rfl,hl,hlen,hf⟩:=DataW.trod_struct ht h;obtain⟨vs,hv,hq⟩:=YQ (w:=w) (cs:=cs) (fun i g vs=>∀y,xs[i]?=some y→mG P d g.type vs y.1) hp.2 hl (fun i g hg=>by
    have YS:fs[i]?=some g:=by simpa using hg
    have h1:=hf i g YS;have hi:i<xs.length:=by rw[hlen];exact(wJ.1 YS).1
    rw[g8 hi]at h1;obtain⟨us,hu,hq⟩:=Re d n g.type _ _ (hp.1 g (g9 hg)) h1;refine⟨us,hu,fun y hy=>?_⟩;rw[g8 hi]at hy;cases hy;exact hq) (xZ _)
   simp only[vn,xY]at hv hq;refine⟨vs,hv,?_⟩;refine⟨xs.map (·.1),rfl,by simp[hlen],by rw[hv.1,hl],fun i g y hg hy=>?_⟩
   simp only[vp,EP]at hy;obtain⟨z,hz,rfl⟩:=hy;exact(hq i g (by simpa using hg)).2 z hz
  ·cases hp
end
end Go.Vm
