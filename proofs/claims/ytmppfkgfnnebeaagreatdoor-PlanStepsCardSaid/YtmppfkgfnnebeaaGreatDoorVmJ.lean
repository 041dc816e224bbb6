/- The value machine, 19: what a call's arguments are, by value. -/
import Derived.Test.YtmppfkgfnnebeaaGreatDoorVmI
import Derived.ProofKit
namespace Go.Vm
set_option linter.all false
open Go.ChangeShapes
section
variable {H:Type} {enc:TypeId×Value→H} {P:Program} {w:World} {base:Nat} {spare:Nat→Bool} {held:Bool}
def xl(h:Array Obj)(b:Nat):Nat :=
 match h[b]? with
 |some (.cells c _ _)=>c.size
 |_=>0
def rh(P:Program):Nat→TypeId→List V→DataW H→Prop
 |0,_,_,_=>False
 |d+1,t,vs,x=>match P.underlying t with
  |some .bool=>∃b,vs=[.bool b]∧x=.lit (.bool b)
  |some (.int k)=>∃n,vs=[.int k n]∧(Lit.int k n).wf=true∧x=.lit (.int k n)
  |some .string=>∃s,vs=[.str s]∧x=.lit (.string s)
  |some (.slice e)=>∃es xs,vs=[.slice none (P.cellsOf e) es]∧((∃sp,x=.slice xs sp)∨(xs=[]∧x=.nil))∧es.length≤9223372036854775807∧es.length=xs.length ∧
    ∀(i:Nat) row y,es[i]?=some row→xs[i]?=some y→row.length=P.cellsOf e∧rh P d e row y
  |some (.struct fs)=>∃xs:List (DataW H),x=.agg xs∧xs.length=fs.size∧vs.length=P.cellsOf t∧∀(i:Nat) f y,fs[i]?=some f→xs[i]?=some y→rh P d f.type ((vs.drop f.offset).take (P.cellsOf f.type)) y
  |_=>False
def BD(P:Program):Nat→List Field→Nat→Bool
 |off,[],n=>off==n
 |off,f::fs,n=>f.offset==off&&BD P (off+P.cellsOf f.type) fs n
def vP(P:Program):Nat→TypeId→Bool
 |0,_=>false
 |d+1,t=>match P.underlying t with
  |some .bool|some (.int _)|some .string=>true
  |some (.slice e)=>Nat.blt 0 (P.cellsOf e)&&vP P d e
  |some (.struct fs)=>fs.toList.all (fun f=>vP P d f.type)&&BD P 0 fs.toList (P.cellsOf t)
  |_=>false
def xm(w:World)(vs:List V)(cs:List Value):Prop :=
 vs.length=cs.length∧∀(j:Nat) (v:V) (y:Value),vs[j]?=some v→cs[j]?=some y→fg w.heap (xl w.heap) v y∧v.plain=true
theorem xm.one{v:V}{y:Value}(h:fg w.heap (xl w.heap) v y)(hp:v.plain=true):xm w [v] [y] :=
 ⟨rfl,fun j u z hu hz=>by
  cases j with
  |zero=>simp at hu hz;subst hu;subst hz;exact⟨h,hp⟩
  |succ j=>simp at hu⟩
theorem xm.append{vs us:List V}{cs ds:List Value}(h1:xm w vs cs)(h2:xm w us ds):xm w (vs++us) (cs++ds):=by
 refine⟨by simp[h1.1,h2.1],fun j v y hv hy=>?_⟩
 rcases cF j vs.length with h|h
 ·rw[nG h]at hv
  rw[nG (by have:=h1.1;omega)]at hy
  exact h1.2 j v y hv hy
 ·rw[qg h]at hv
  rw[qg (by have:=h1.1;omega),← h1.1]at hy
  exact h2.2 _ v y hv hy
theorem cells?_get{a:Addr}{n:Nat}{cs:List Value}(h:w.cells? base a n=some cs):cs.length=n∧∀(j:Nat) (y:Value),cs[j]?=some y→w.cell? (a.add j)=some y:=by
 unfold World.cells? at h;split at h
 ·have hl:=mapM_some_length h
  simp only[Km]at hl;refine⟨hl,fun j y hy=>?_⟩;have hj:j<n:=by rw[←hl];exact eQ hy
  have:=mapM_some_get h j j (by simp[hj])
  rw[this,hy]
 ·cases h
theorem X5:∀{fs:List Field} {off n:Nat} {cs:List Value} (Q:Nat→Field→List V→Prop),BD P off fs n=true→cs.length=n →
  (∀(i:Nat) g,fs[i]?=some g→∃vs,xm w vs ((cs.drop g.offset).take (P.cellsOf g.type))∧Q i g vs)→off≤n →
  ∃vs,xm w vs (cs.drop off)∧∀(i:Nat) g,fs[i]?=some g→off≤g.offset∧Q i g ((vs.drop (g.offset-off)).take (P.cellsOf g.type))
 |[],off,n,cs,Q,ht,hl,_,_=>by
  simp only[BD,dO]at ht;refine⟨[],⟨by simp;omega,by simp⟩,by simp⟩
 |g::fs,off,n,cs,Q,ht,hl,h,hle=>by
  simp only[BD,bS,dO]at ht;obtain⟨ho,ht⟩:=ht;obtain⟨us,hu,hq⟩:=h 0 g rfl;have akn:off+P.cellsOf g.type≤n:=by
   have:∀{fs:List Field} {off n:Nat},BD P off fs n=true→off≤n:=by
    intro fs;induction fs with
    |nil=>intro off n h;simp[BD]at h;omega
    |cons x r ih =>
     intro off n h;simp only[BD,bS,dO]at h;have:=ih h.2;omega
   exact this ht
  obtain⟨vs,hv,hr⟩:=X5 (fun i=>Q (i+1)) ht hl (fun i g' hg=>h (i+1) g' hg) akn;have Bu:us.length=P.cellsOf g.type:=by rw[hu.1];simp;omega
  refine⟨us++vs,?_,fun i g' hg=>?_⟩
  ·have:=hu.append hv
   rw[ho]at this;have e:(cs.drop off).take (P.cellsOf g.type)++cs.drop (off+P.cellsOf g.type)=cs.drop off:=by
    rw[←uX];exact V3 _ _
   rw[e]at this;exact this
  ·cases i with
   |zero =>
    simp at hg;subst hg;refine⟨by omega,?_⟩
    rw[ho,sb,uY,← Bu,List.take_left];exact hq
   |succ i =>
    obtain⟨h1,h2⟩:=hr i g' (by simpa using hg)
    refine⟨by omega,?_⟩
    have e:(us++vs).drop (g'.offset-off)=vs.drop (g'.offset-(off+P.cellsOf g.type)):=by
     have:(us++vs).drop (us.length+(g'.offset-(off+P.cellsOf g.type)))=vs.drop (g'.offset-(off+P.cellsOf g.type)):=List.drop_length_add_append ..;rw[←this];congr 1;omega
    rw[e];exact h2
theorem Qq{a:Addr}{y:Value}(h:w.cell? a=some y):a.spot=none∧cellAt w.heap a.block a.off=some y∧a.block<w.heap.size∧a.off<xl w.heap a.block:=by
 unfold World.cell? at h;unfold cellAt xl;split at h
 ·rename_i c e fz hb
  have bE:a.block<w.heap.size:=by
   rcases cF a.block w.heap.size with h' | h'
   ·exact h'
   ·simp[mF h']at hb
  simp only[hb];cases hs:a.spot with
  |some s=>simp[hs]at h
  |none =>
   simp only[hs,Option.isSome_none,D9,if_false]at h;exact⟨rfl,h,bE,(xR.1 h).1⟩
 ·cases h
theorem Qr:∀(d fuel:Nat) (t:TypeId) (cs:List Value) (x:DataW H×List MemPlace),vP P d t=true→DataW.trod enc P w base spare held fuel t cs=some x →
  ∃vs,xm w vs cs∧rh P d t vs x.1
 |0,_,_,_,_,h,_=>by simp[vP]at h
 |d+1,fuel,t,cs,x,hp,h=>by
  unfold vP at hp;unfold rh;split at hp
  ·rename_i ht
   obtain⟨b,rfl,rfl⟩:=DataW.trod_bool ht h;exact⟨[.bool b],.one (.bool b) rfl,by exact⟨b,rfl,rfl⟩⟩
  ·rename_i k ht
   obtain⟨n,rfl,rfl,hw⟩:=DataW.trod_int ht h;exact⟨[.int k n],.one (.int k n) rfl,by exact⟨n,rfl,hw,rfl⟩⟩
  ·rename_i ht
   obtain⟨s,rfl,rfl,_⟩:=DataW.trod_string ht h;exact⟨[.str s.data.toList],.one (.str s) rfl,by exact⟨_,rfl,rfl⟩⟩
  ·rename_i e ht
   simp only[bS]at hp;obtain⟨hn,hp⟩:=hp;have hn:0<P.cellsOf e:=il hn;rcases DataW.trod_slice ht h with⟨rfl,rfl⟩ | ⟨a,len,cap,elems,rest,n,_,rfl,rfl,hb,hl,hm,hlen,wV,ia,X6⟩
   ·exact⟨[.slice none (P.cellsOf e) []],.one (.nil _ _) rfl,by exact⟨[],[],rfl,.inr ⟨rfl,rfl⟩,by simp,rfl,by simp⟩⟩
   ·have each:∀i,∃r:List V×List Value,i<len→w.cells? base (a.add (i*P.cellsOf e)) (P.cellsOf e)=some r.2∧xm w r.1 r.2∧∀y,elems[i]?=some y→rh P d e r.1 y.1:=fun i=>by
     by_cases hi:i<len
     ·have h1:=wV i hi
      rw[fN (by omega),Option.bind_eq_some_iff]at h1
      obtain⟨dS,ew,hy⟩:=h1;obtain⟨vs,hv,hq⟩:=Qr d n e dS _ hp hy;refine⟨(vs,dS),fun _=>⟨ew,hv,fun y hy=>?_⟩⟩;rw[fN (by omega)]at hy
      cases hy;exact hq
     ·exact⟨([],[]),fun h=>absurd h hi⟩
    obtain⟨r,hr⟩:=Classical.axiomOfChoice each;have iH:∀i,i<len→(r i).1.length=P.cellsOf e:=fun i hi=>by rw[(hr i hi).2.1.1];exact(cells?_get (hr i hi).1).1
    have qu:∀(i:Nat) (row:List V),((List.range len).map fun i=>(r i).1)[i]?=some row→i<len∧row=(r i).1:=fun i row h=>by
     have h1:=eQ h;simp at h1;simp[h1]at h;exact⟨h1,h.symm⟩
    refine⟨[.slice none (P.cellsOf e) ((List.range len).map fun i=>(r i).1)],.one ?_ rfl,?_⟩
    ·rcases mq len with h0|h0
     ·subst h0;exact .empty _ _ a cap
     ·have cell:∀i j,i<len→j<P.cellsOf e→w.cell? ((a.add (i*P.cellsOf e)).add j)=some ((r i).2.getD j undef):=fun i j hi hj=>by
       obtain⟨h1,h2⟩:=cells?_get (hr i hi).1;have:j<(r i).2.length:=by omega
       refine h2 j _ ?_;simp[this]
      obtain⟨q1,_⟩:=Qq (cell 0 0 h0 hn);obtain⟨ab,ao,as⟩:=a;have q1:as=none:=by simpa [Addr.add] using q1
      subst q1;simp only[kB]at cell;obtain⟨_,q2,q3,q4⟩:=Qq (cell (len-1) (P.cellsOf e-1) (by omega) (by omega))
      simp only at q2 q3 q4;have hmul:(len-1)*P.cellsOf e+P.cellsOf e=len*P.cellsOf e:=by
       rw[←oS];congr 1;omega
      have:=fg.slice (h:=w.heap) (m:=xl w.heap) none (P.cellsOf e) ((List.range len).map fun i=>(r i).1) ab ao cap (fun i j=>(r i).2.getD j undef) q3 (by simpa using hl)
       (fun i row hi=>by obtain⟨h1,rfl⟩:=qu i row hi;exact iH i h1)
       (fun i row j v hi hj=>by
        obtain⟨h1,rfl⟩:=qu i row hi;have h2:=eQ hj;rw[iH i h1]at h2;exact(Qq (cell i j h1 h2)).2.1)
       (fun i row j v hi hj=>by
        obtain⟨h1,rfl⟩:=qu i row hi;have h2:=eQ hj;rw[(hr i h1).2.1.1]at h2;exact((hr i h1).2.1.2 j v _ hj (by simp[h2])).1)
       (fun i row j v hi hj=>by
        obtain⟨h1,rfl⟩:=qu i row hi;have h2:=eQ hj;rw[(hr i h1).2.1.1]at h2;exact((hr i h1).2.1.2 j v ((r i).2.getD j undef) hj (by simp[h2])).2)
       (by simp only[wF,Km];omega)
      simpa using this
    ·refine⟨_,elems.map (·.1),rfl,.inl ⟨_,rfl⟩,by have:maxLen=9223372036854775807:=rfl;simp;omega,by simp[hlen],fun i row y hi hy=>?_⟩
     obtain⟨h1,rfl⟩:=qu i row hi;simp only[vN,En]at hy;obtain⟨z,hz,rfl⟩:=hy;exact⟨iH i h1,(hr i h1).2.2 z hz⟩
  ·rename_i fs ht
   simp only[bS,g8]at hp;obtain⟨xs,n,_,rfl,hl,hlen,hf⟩:=DataW.trod_struct ht h;obtain⟨vs,hv,hq⟩:=X5 (w:=w) (cs:=cs) (fun i g vs=>∀y,xs[i]?=some y→rh P d g.type vs y.1) hp.2 hl (fun i g hg=>by
    have X7:fs[i]?=some g:=by simpa using hg
    have h1:=hf i g X7;have hi:i<xs.length:=by rw[hlen];exact(xR.1 X7).1
    rw[fN hi]at h1;obtain⟨us,hu,hq⟩:=Qr d n g.type _ _ (hp.1 g (fW hg)) h1;refine⟨us,hu,fun y hy=>?_⟩;rw[fN hi]at hy;cases hy;exact hq) (y7 _)
   simp only[uY,xY]at hv hq;refine⟨vs,hv,?_⟩;refine⟨xs.map (·.1),rfl,by simp[hlen],by rw[hv.1,hl],fun i g y hg hy=>?_⟩
   simp only[vN,En]at hy;obtain⟨z,hz,rfl⟩:=hy;exact(hq i g (by simpa using hg)).2 z hz
  ·cases hp
end
end Go.Vm
