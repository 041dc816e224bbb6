/- The value machine, 19: what a call's arguments are, by value. -/
import Derived.Test.YtcelmhaoipbdiaaGreatDoorVmI
import Derived.ProofKit
namespace Go.Vm
set_option linter.all false
open Go.ChangeShapes
section
variable {H:Type} {enc:TypeId×Value→H} {P:Program} {w:World} {base:Nat} {spare:Nat→Bool} {held:Bool}
def vP(h:Array Obj)(b:Nat):Nat :=
 match h[b]? with
 |some (.cells c _ _)=>c.size
 |_=>0
def qj(P:Program):Nat→TypeId→List V→DataW H→Prop
 |0,_,_,_=>False
 |d+1,t,vs,x=>match P.underlying t with
  |some .bool=>∃b,vs=[.bool b]∧x=.lit (.bool b)
  |some (.int k)=>∃n,vs=[.int k n]∧(Lit.int k n).wf=true∧x=.lit (.int k n)
  |some .string=>∃s,vs=[.str s]∧x=.lit (.string s)
  |some (.slice e)=>∃es xs,vs=[.slice none (P.cellsOf e) es]∧((∃sp,x=.slice xs sp)∨(xs=[]∧x=.nil))∧es.length≤9223372036854775807∧es.length=xs.length ∧
    ∀(i:Nat) row y,es[i]?=some row→xs[i]?=some y→row.length=P.cellsOf e∧qj P d e row y
  |some (.struct fs)=>∃xs:List (DataW H),x=.agg xs∧xs.length=fs.size∧vs.length=P.cellsOf t∧∀(i:Nat) f y,fs[i]?=some f→xs[i]?=some y→qj P d f.type ((vs.drop f.offset).take (P.cellsOf f.type)) y
  |_=>False
def Ai(P:Program):Nat→List Field→Nat→Bool
 |off,[],n=>off==n
 |off,f::fs,n=>f.offset==off&&Ai P (off+P.cellsOf f.type) fs n
def uz(P:Program):Nat→TypeId→Bool
 |0,_=>false
 |d+1,t=>match P.underlying t with
  |some .bool|some (.int _)|some .string=>true
  |some (.slice e)=>Nat.blt 0 (P.cellsOf e)&&uz P d e
  |some (.struct fs)=>fs.toList.all (fun f=>uz P d f.type)&&Ai P 0 fs.toList (P.cellsOf t)
  |_=>false
def vQ(w:World)(vs:List V)(cs:List Value):Prop :=
 vs.length=cs.length∧∀(j:Nat) (v:V) (y:Value),vs[j]?=some v→cs[j]?=some y→fa w.heap (vP w.heap) v y∧v.plain=true
theorem vQ.one{v:V}{y:Value}(h:fa w.heap (vP w.heap) v y)(hp:v.plain=true):vQ w [v] [y] :=
 ⟨rfl,fun j u z hu hz=>by
  cases j with
  |zero=>simp at hu hz;subst hu;subst hz;exact⟨h,hp⟩
  |succ j=>simp at hu⟩
theorem vQ.append{vs us:List V}{cs ds:List Value}(h1:vQ w vs cs)(h2:vQ w us ds):vQ w (vs++us) (cs++ds):=by
 refine⟨by simp[h1.1,h2.1],fun j v y hv hy=>?_⟩
 rcases cF j vs.length with h|h
 ·rw[sW h]at hv
  rw[sW (by have:=h1.1;omega)]at hy
  exact h1.2 j v y hv hy
 ·rw[u5 h]at hv
  rw[u5 (by have:=h1.1;omega),← h1.1]at hy
  exact h2.2 _ v y hv hy
theorem cells?_get{a:Addr}{n:Nat}{cs:List Value}(h:w.cells? base a n=some cs):cs.length=n∧∀(j:Nat) (y:Value),cs[j]?=some y→w.cell? (a.add j)=some y:=by
 unfold World.cells? at h;split at h
 ·have hl:=mapM_some_length h
  simp only[Mk]at hl;refine⟨hl,fun j y hy=>?_⟩;have hj:j<n:=by rw[←hl];exact eJ hy
  have:=mapM_some_get h j j (by simp[hj])
  rw[this,hy]
 ·cases h
theorem U6:∀{fs:List Field} {off n:Nat} {cs:List Value} (Q:Nat→Field→List V→Prop),Ai P off fs n=true→cs.length=n →
  (∀(i:Nat) g,fs[i]?=some g→∃vs,vQ w vs ((cs.drop g.offset).take (P.cellsOf g.type))∧Q i g vs)→off≤n →
  ∃vs,vQ w vs (cs.drop off)∧∀(i:Nat) g,fs[i]?=some g→off≤g.offset∧Q i g ((vs.drop (g.offset-off)).take (P.cellsOf g.type))
 |[],off,n,cs,Q,ht,hl,_,_=>by
  simp only[Ai,dO]at ht;refine⟨[],⟨by simp;omega,by simp⟩,by simp⟩
 |g::fs,off,n,cs,Q,ht,hl,h,hle=>by
  simp only[Ai,bQ,dO]at ht;obtain⟨ho,ht⟩:=ht;obtain⟨us,hu,hq⟩:=h 0 g rfl;have af1:off+P.cellsOf g.type≤n:=by
   have:∀{fs:List Field} {off n:Nat},Ai P off fs n=true→off≤n:=by
    intro fs;induction fs with
    |nil=>intro off n h;simp[Ai]at h;omega
    |cons x r ih =>
     intro off n h;simp only[Ai,bQ,dO]at h;have:=ih h.2;omega
   exact this ht
  obtain⟨vs,hv,hr⟩:=U6 (fun i=>Q (i+1)) ht hl (fun i g' hg=>h (i+1) g' hg) af1;have xN:us.length=P.cellsOf g.type:=by rw[hu.1];simp;omega
  refine⟨us++vs,?_,fun i g' hg=>?_⟩
  ·have:=hu.append hv
   rw[ho]at this;have e:(cs.drop off).take (P.cellsOf g.type)++cs.drop (off+P.cellsOf g.type)=cs.drop off:=by
    rw[←xp];exact List.take_append_drop _ _
   rw[e]at this;exact this
  ·cases i with
   |zero =>
    simp at hg;subst hg;refine⟨by omega,?_⟩
    rw[ho,qD,tM,← xN,List.take_left];exact hq
   |succ i =>
    obtain⟨h1,h2⟩:=hr i g' (by simpa using hg)
    refine⟨by omega,?_⟩
    have e:(us++vs).drop (g'.offset-off)=vs.drop (g'.offset-(off+P.cellsOf g.type)):=by
     have:(us++vs).drop (us.length+(g'.offset-(off+P.cellsOf g.type)))=vs.drop (g'.offset-(off+P.cellsOf g.type)):=List.drop_length_add_append ..;rw[←this];congr 1;omega
    rw[e];exact h2
theorem Oa{a:Addr}{y:Value}(h:w.cell? a=some y):a.spot=none∧cellAt w.heap a.block a.off=some y∧a.block<w.heap.size∧a.off<vP w.heap a.block:=by
 unfold World.cell? at h;unfold cellAt vP;split at h
 ·rename_i c e fz hb
  have bB:a.block<w.heap.size:=by
   rcases cF a.block w.heap.size with h' | h'
   ·exact h'
   ·simp[lU h']at hb
  simp only[hb];cases hs:a.spot with
  |some s=>simp[hs]at h
  |none =>
   simp only[hs,Option.isSome_none,EE,if_false]at h;exact⟨rfl,h,bB,(wy.1 h).1⟩
 ·cases h
theorem Ob:∀(d fuel:Nat) (t:TypeId) (cs:List Value) (x:DataW H×List MemPlace),uz P d t=true→DataW.trod enc P w base spare held fuel t cs=some x →
  ∃vs,vQ w vs cs∧qj P d t vs x.1
 |0,_,_,_,_,h,_=>by simp[uz]at h
 |d+1,fuel,t,cs,x,hp,h=>by
  unfold uz at hp;unfold qj;split at hp
  ·rename_i ht
   obtain⟨b,rfl,rfl⟩:=DataW.trod_bool ht h;exact⟨[.bool b],.one (.bool b) rfl,by exact⟨b,rfl,rfl⟩⟩
  ·rename_i k ht
   obtain⟨n,rfl,rfl,hw⟩:=DataW.trod_int ht h;exact⟨[.int k n],.one (.int k n) rfl,by exact⟨n,rfl,hw,rfl⟩⟩
  ·rename_i ht
   obtain⟨s,rfl,rfl,_⟩:=DataW.trod_string ht h;exact⟨[.str s.data.toList],.one (.str s) rfl,by exact⟨_,rfl,rfl⟩⟩
  ·rename_i e ht
   simp only[bQ]at hp;obtain⟨hn,hp⟩:=hp;have hn:0<P.cellsOf e:=iD hn;rcases DataW.trod_slice ht h with⟨rfl,rfl⟩ | ⟨a,len,cap,elems,rest,n,_,rfl,rfl,hb,hl,hm,hlen,vp,g5,U7⟩
   ·exact⟨[.slice none (P.cellsOf e) []],.one (.nil _ _) rfl,by exact⟨[],[],rfl,.inr ⟨rfl,rfl⟩,by simp,rfl,by simp⟩⟩
   ·have each:∀i,∃r:List V×List Value,i<len→w.cells? base (a.add (i*P.cellsOf e)) (P.cellsOf e)=some r.2∧vQ w r.1 r.2∧∀y,elems[i]?=some y→qj P d e r.1 y.1:=fun i=>by
     by_cases hi:i<len
     ·have h1:=vp i hi
      rw[gG (by omega),Option.bind_eq_some_iff]at h1
      obtain⟨dQ,eB,hy⟩:=h1;obtain⟨vs,hv,hq⟩:=Ob d n e dQ _ hp hy;refine⟨(vs,dQ),fun _=>⟨eB,hv,fun y hy=>?_⟩⟩;rw[gG (by omega)]at hy
      cases hy;exact hq
     ·exact⟨([],[]),fun h=>absurd h hi⟩
    obtain⟨r,hr⟩:=Classical.axiomOfChoice each;have iw:∀i,i<len→(r i).1.length=P.cellsOf e:=fun i hi=>by rw[(hr i hi).2.1.1];exact(cells?_get (hr i hi).1).1
    have pH:∀(i:Nat) (row:List V),((List.range len).map fun i=>(r i).1)[i]?=some row→i<len∧row=(r i).1:=fun i row h=>by
     have h1:=eJ h;simp at h1;simp[h1]at h;exact⟨h1,h.symm⟩
    refine⟨[.slice none (P.cellsOf e) ((List.range len).map fun i=>(r i).1)],.one ?_ rfl,?_⟩
    ·rcases mw len with h0|h0
     ·subst h0;exact .empty _ _ a cap
     ·have cell:∀i j,i<len→j<P.cellsOf e→w.cell? ((a.add (i*P.cellsOf e)).add j)=some ((r i).2.getD j undef):=fun i j hi hj=>by
       obtain⟨h1,h2⟩:=cells?_get (hr i hi).1;have:j<(r i).2.length:=by omega
       refine h2 j _ ?_;simp[this]
      obtain⟨q1,_⟩:=Oa (cell 0 0 h0 hn);obtain⟨ab,ao,as⟩:=a;have q1:as=none:=by simpa [Addr.add] using q1
      subst q1;simp only[jX]at cell;obtain⟨_,q2,q3,q4⟩:=Oa (cell (len-1) (P.cellsOf e-1) (by omega) (by omega))
      simp only at q2 q3 q4;have hmul:(len-1)*P.cellsOf e+P.cellsOf e=len*P.cellsOf e:=by
       rw[←nU];congr 1;omega
      have:=fa.slice (h:=w.heap) (m:=vP w.heap) none (P.cellsOf e) ((List.range len).map fun i=>(r i).1) ab ao cap (fun i j=>(r i).2.getD j undef) q3 (by simpa using hl)
       (fun i row hi=>by obtain⟨h1,rfl⟩:=pH i row hi;exact iw i h1)
       (fun i row j v hi hj=>by
        obtain⟨h1,rfl⟩:=pH i row hi;have h2:=eJ hj;rw[iw i h1]at h2;exact(Oa (cell i j h1 h2)).2.1)
       (fun i row j v hi hj=>by
        obtain⟨h1,rfl⟩:=pH i row hi;have h2:=eJ hj;rw[(hr i h1).2.1.1]at h2;exact((hr i h1).2.1.2 j v _ hj (by simp[h2])).1)
       (fun i row j v hi hj=>by
        obtain⟨h1,rfl⟩:=pH i row hi;have h2:=eJ hj;rw[(hr i h1).2.1.1]at h2;exact((hr i h1).2.1.2 j v ((r i).2.getD j undef) hj (by simp[h2])).2)
       (by simp only[xr,Mk];omega)
      simpa using this
    ·refine⟨_,elems.map (·.1),rfl,.inl ⟨_,rfl⟩,by have:maxLen=9223372036854775807:=rfl;simp;omega,by simp[hlen],fun i row y hi hy=>?_⟩
     obtain⟨h1,rfl⟩:=pH i row hi;simp only[tN,CL]at hy;obtain⟨z,hz,rfl⟩:=hy;exact⟨iw i h1,(hr i h1).2.2 z hz⟩
  ·rename_i fs ht
   simp only[bQ,g9]at hp;obtain⟨xs,n,_,rfl,hl,hlen,hf⟩:=DataW.trod_struct ht h;obtain⟨vs,hv,hq⟩:=U6 (w:=w) (cs:=cs) (fun i g vs=>∀y,xs[i]?=some y→qj P d g.type vs y.1) hp.2 hl (fun i g hg=>by
    have U8:fs[i]?=some g:=by simpa using hg
    have h1:=hf i g U8;have hi:i<xs.length:=by rw[hlen];exact(wy.1 U8).1
    rw[gG hi]at h1;obtain⟨us,hu,hq⟩:=Ob d n g.type _ _ (hp.1 g (gH hg)) h1;refine⟨us,hu,fun y hy=>?_⟩;rw[gG hi]at hy;cases hy;exact hq) (xu _)
   simp only[tM,wF]at hv hq;refine⟨vs,hv,?_⟩;refine⟨xs.map (·.1),rfl,by simp[hlen],by rw[hv.1,hl],fun i g y hg hy=>?_⟩
   simp only[tN,CL]at hy;obtain⟨z,hz,rfl⟩:=hy;exact(hq i g (by simpa using hg)).2 z hz
  ·cases hp
end
end Go.Vm
