/- - -/
import Derived.Test.YtabckmbjnjnegaaGreatDoorVmI
import Derived.ProofKit
namespace Go.Vm
set_option linter.all false
open Go.ChangeShapes
section
variable {H:Type} {enc:TypeId×Value->H} {P:Program} {w:World} {base:Nat} {spare:Nat->Bool} {held:Bool}
def xV(h:Array Obj)(b:Nat):Nat :=
 match h[b]? with
 |some (.cells c _ _)=>c.size
 |_=>0
def nE(P:Program):Nat->TypeId->List V->DataW H->Prop
 |0,_,_,_=>False
 |d+1,t,vs,x=>match P.underlying t with
  |some .bool=>∃b,vs=[.bool b]/\x=.lit (.bool b)
  |some (.int k)=>∃n,vs=[.int k n]/\(Lit.int k n).wf=true/\x=.lit (.int k n)
  |some .string=>∃s,vs=[.str s]/\x=.lit (.string s)
  |some (.slice e)=>∃es xs,vs=[.slice none (P.cellsOf e) es]/\((∃sp,x=.slice xs sp)\/(xs=[]/\x=.nil))/\es.length<=9223372036854775807/\es.length=xs.length /\
    ∀(i:Nat) row y,es[i]?=some row->xs[i]?=some y->row.length=P.cellsOf e/\nE P d e row y
  |some (.struct fs)=>∃xs:List (DataW H),x=.agg xs/\xs.length=fs.size/\vs.length=P.cellsOf t/\∀(i:Nat) f y,fs[i]?=some f->xs[i]?=some y->nE P d f.type ((vs.drop f.offset).take (P.cellsOf f.type)) y
  |_=>False
def Dy(P:Program):Nat->List Field->Nat->Bool
 |off,[],n=>off==n
 |off,f::fs,n=>f.offset==off&&Dy P (off+P.cellsOf f.type) fs n
def wR(P:Program):Nat->TypeId->Bool
 |0,_=>false
 |d+1,t=>match P.underlying t with
  |some .bool|some (.int _)|some .string=>true
  |some (.slice e)=>Nat.blt 0 (P.cellsOf e)&&wR P d e
  |some (.struct fs)=>fs.toList.all (λf=>wR P d f.type)&&Dy P 0 fs.toList (P.cellsOf t)
  |_=>false
def zg(w:World)(vs:List V)(cs:List Value):Prop :=
 vs.length=cs.length/\∀(j:Nat) (v:V) (y:Value),vs[j]?=some v->cs[j]?=some y->fK w.heap (xV w.heap) v y/\v.plain=true
variable{y:Value}
def zg.one{v:V}(h:fK w.heap (xV w.heap) v y)(hp:v.plain=true):zg w [v] [y] :=
 ⟨rfl,λj u z hu hz=>by
  cases j with
  |zero=>simp at hu hz;subst hu;subst hz;exact⟨h,hp⟩
  |succ j=>simp at hu⟩
def zg.append{vs us:List V}{cs ds:List Value}(h1:zg w vs cs)(h2:zg w us ds):zg w (vs++us) (cs++ds):=by
 refine⟨by simp[h1.1,h2.1],λj v y hv hy=>?_⟩
 rcases cS j vs.length with h|h
 .rw[nR h]at hv
  rw[nR (by have:=h1.1;omega)]at hy
  exact h1.2 j v y hv hy
 .rw[wy h]at hv
  rw[wy (by have:=h1.1;omega),<- h1.1]at hy
  exact h2.2 _ v y hv hy
variable{a:Addr}
def cells?_get{n:Nat}{cs:List Value}(h:w.cells? base a n=some cs):cs.length=n/\∀(j:Nat) (y:Value),cs[j]?=some y->w.cell? (a.add j)=some y:=by
 unfold World.cells? at h;split at h
 .have hl:=mapM_some_length h
  simp only[RW]at hl;refine⟨hl,λj y hy=>?_⟩;have hj:j<n:=by rw[<-hl];exact fg hy
  have:=mapM_some_get h j j (by simp[hj])
  rw[this,hy]
 .cases h
def aby:∀{fs:List Field} {off n:Nat} {cs:List Value} (Q:Nat->Field->List V->Prop),Dy P off fs n=true->cs.length=n ->
  (∀(i:Nat) g,fs[i]?=some g->∃vs,zg w vs ((cs.drop g.offset).take (P.cellsOf g.type))/\Q i g vs)->off<=n ->
  ∃vs,zg w vs (cs.drop off)/\∀(i:Nat) g,fs[i]?=some g->off<=g.offset/\Q i g ((vs.drop (g.offset-off)).take (P.cellsOf g.type))
 |[],off,n,cs,Q,ht,hl,_,_=>by
  simp only[Dy,ec]at ht;refine⟨[],⟨by simp;omega,by simp⟩,by simp⟩
 |g::fs,off,n,cs,Q,ht,hl,h,hle=>by
  simp only[Dy,bZ,ec]at ht;obtain⟨ho,ht⟩:=ht;obtain⟨us,hu,hq⟩:=h 0 g rfl;have aoS:off+P.cellsOf g.type<=n:=by
   have:∀{fs:List Field} {off n:Nat},Dy P off fs n=true->off<=n:=by
    intro fs;induction fs with
    |nil=>intro off n h;simp[Dy]at h;omega
    |cons x r ih =>
     intro off n h;simp only[Dy,bZ,ec]at h;have:=ih h.2;omega
   exact this ht
  obtain⟨vs,hv,hr⟩:=aby (λi=>Q (i+1)) ht hl (λi g' hg=>h (i+1) g' hg) aoS;have Bq:us.length=P.cellsOf g.type:=by rw[hu.1];simp;omega
  refine⟨us++vs,?_,λi g' hg=>?_⟩
  .have:=hu.append hv
   rw[ho]at this;have e:(cs.drop off).take (P.cellsOf g.type)++cs.drop (off+P.cellsOf g.type)=cs.drop off:=by
    rw[<-List.drop_drop];exact Jq _ _
   rw[e]at this;exact this
  .cases i with
   |zero =>
    simp at hg;subst hg;refine⟨by omega,?_⟩
    rw[ho,pA,tA,<- Bq,List.take_left];exact hq
   |succ i =>
    obtain⟨h1,h2⟩:=hr i g' (by simpa using hg)
    refine⟨by omega,?_⟩
    have e:(us++vs).drop (g'.offset-off)=vs.drop (g'.offset-(off+P.cellsOf g.type)):=by
     have:(us++vs).drop (us.length+(g'.offset-(off+P.cellsOf g.type)))=vs.drop (g'.offset-(off+P.cellsOf g.type)):=List.drop_length_add_append ..;rw[<-this];congr 1;omega
    rw[e];exact h2
def TP(h:w.cell? a=some y):a.spot=none/\cellAt w.heap a.block a.off=some y/\a.block<w.heap.size/\a.off<xV w.heap a.block:=by
 unfold World.cell? at h;unfold cellAt xV;split at h
 next c e fz hb=>
  have bJ:a.block<w.heap.size:=by
   rcases cS a.block w.heap.size with h' | h'
   .exact h'
   .simp[ou h']at hb
  simp only[hb];cases hs:a.spot with
  |some s=>simp[hs]at h
  |none =>
   simp only[hs,Option.isSome_none,Gk,if_false]at h;exact⟨rfl,h,bJ,(xn.1 h).1⟩
 .cases h
def TQ:∀(d fuel:Nat) (t:TypeId) (cs:List Value) (x:DataW H×List MemPlace),wR P d t=true->DataW.trod enc P w base spare held fuel t cs=some x ->
  ∃vs,zg w vs cs/\nE P d t vs x.1
 |0,_,_,_,_,h,_=>by simp[wR]at h
 |d+1,fuel,t,cs,x,hp,h=>by
  unfold wR at hp;unfold nE;split at hp
  next ht=>
   obtain⟨b,rfl,rfl⟩:=DataW.trod_bool ht h;exact⟨[.bool b],.one (.bool b) rfl,by exact⟨b,rfl,rfl⟩⟩
  next k ht=>
   obtain⟨n,rfl,rfl,hw⟩:=DataW.trod_int ht h;exact⟨[.int k n],.one (.int k n) rfl,by exact⟨n,rfl,hw,rfl⟩⟩
  next ht=>
   obtain⟨s,rfl,rfl,_⟩:=DataW.trod_string ht h;exact⟨[.str s.data.toList],.one (.str s) rfl,by exact⟨_,rfl,rfl⟩⟩
  next e ht=>
   simp only[bZ]at hp;obtain⟨hn,hp⟩:=hp;have hn:0<P.cellsOf e:=js hn;rcases DataW.trod_slice ht h with⟨rfl,rfl⟩ | ⟨a,len,cap,elems,rest,n,_,rfl,rfl,hb,hl,hm,hlen,yR,jm,hns⟩
   .exact⟨[.slice none (P.cellsOf e) []],.one (.nil _ _) rfl,by exact⟨[],[],rfl,.inr ⟨rfl,rfl⟩,by simp,rfl,by simp⟩⟩
   .have each:∀i,∃r:List V×List Value,i<len->w.cells? base (a.add (i*P.cellsOf e)) (P.cellsOf e)=some r.2/\zg w r.1 r.2/\∀y,elems[i]?=some y->nE P d e r.1 y.1:=λi=>by
     by_cases hi:i<len
     .have h1:=yR i hi
      rw[eV (by omega),Option.bind_eq_some_iff]at h1
      obtain⟨ei,eR,hy⟩:=h1;obtain⟨vs,hv,hq⟩:=TQ d n e ei _ hp hy;refine⟨(vs,ei),λ_=>⟨eR,hv,λy hy=>?_⟩⟩;rw[eV (by omega)]at hy
      cases hy;exact hq
     .exact⟨([],[]),λh=>absurd h hi⟩
    obtain⟨r,hr⟩:=Classical.axiomOfChoice each;have jG:∀i,i<len->(r i).1.length=P.cellsOf e:=λi hi=>by rw[(hr i hi).2.1.1];exact(cells?_get (hr i hi).1).1
    have sX:∀(i:Nat) (row:List V),((List.range len).map λi=>(r i).1)[i]?=some row->i<len/\row=(r i).1:=λi row h=>by
     have h1:=fg h;simp at h1;simp[h1]at h;exact⟨h1,h.symm⟩
    refine⟨[.slice none (P.cellsOf e) ((List.range len).map λi=>(r i).1)],.one ?_ rfl,?_⟩
    .rcases nV len with h0|h0
     .subst h0;exact .empty _ _ a cap
     .have cell:∀i j,i<len->j<P.cellsOf e->w.cell? ((a.add (i*P.cellsOf e)).add j)=some ((r i).2.getD j undef):=λi j hi hj=>by
       obtain⟨h1,h2⟩:=cells?_get (hr i hi).1;have:j<(r i).2.length:=by omega
       refine h2 j _ ?_;simp[this]
      obtain⟨q1,_⟩:=TP (cell 0 0 h0 hn);obtain⟨ab,ao,as⟩:=a;have q1:as=none:=by simpa [Addr.add] using q1
      subst q1;simp only[lS]at cell;obtain⟨_,q2,q3,q4⟩:=TP (cell (len-1) (P.cellsOf e-1) (by omega) (by omega))
      simp only at q2 q3 q4;have hmul:(len-1)*P.cellsOf e+P.cellsOf e=len*P.cellsOf e:=by
       rw[<-Nat.succ_mul];congr 1;omega
      have:=fK.slice (h:=w.heap) (m:=xV w.heap) none (P.cellsOf e) ((List.range len).map λi=>(r i).1) ab ao cap (λi j=>(r i).2.getD j undef) q3 (by simpa using hl)
       (λi row hi=>by obtain⟨h1,rfl⟩:=sX i row hi;exact jG i h1)
       (λi row j v hi hj=>by
        obtain⟨h1,rfl⟩:=sX i row hi;have h2:=fg hj;rw[jG i h1]at h2;exact(TP (cell i j h1 h2)).2.1)
       (λi row j v hi hj=>by
        obtain⟨h1,rfl⟩:=sX i row hi;have h2:=fg hj;rw[(hr i h1).2.1.1]at h2;exact((hr i h1).2.1.2 j v _ hj (by simp[h2])).1)
       (λi row j v hi hj=>by
        obtain⟨h1,rfl⟩:=sX i row hi;have h2:=fg hj;rw[(hr i h1).2.1.1]at h2;exact((hr i h1).2.1.2 j v ((r i).2.getD j undef) hj (by simp[h2])).2)
       (by simp only[yy,RW];omega)
      simpa using this
    .refine⟨_,elems.map (·.1),rfl,.inl ⟨_,rfl⟩,by have:maxLen=9223372036854775807:=rfl;simp;omega,by simp[hlen],λi row y hi hy=>?_⟩
     obtain⟨h1,rfl⟩:=sX i row hi;simp only[xq,GG]at hy;obtain⟨z,hz,rfl⟩:=hy;exact⟨jG i h1,(hr i h1).2.2 z hz⟩
  next fs ht=>
   simp only[bZ,iW]at hp;obtain⟨xs,n,_,rfl,hl,hlen,hf⟩:=DataW.trod_struct ht h;obtain⟨vs,hv,hq⟩:=aby (w:=w) (cs:=cs) (λi g vs=>∀y,xs[i]?=some y->nE P d g.type vs y.1) hp.2 hl (λi g hg=>by
    have TR:fs[i]?=some g:=by simpa using hg
    have h1:=hf i g TR;have hi:i<xs.length:=by rw[hlen];exact(xn.1 TR).1
    rw[eV hi]at h1;obtain⟨us,hu,hq⟩:=TQ d n g.type _ _ (hp.1 g (gw hg)) h1;refine⟨us,hu,λy hy=>?_⟩;rw[eV hi]at hy;cases hy;exact hq) (A6 _)
   simp only[tA,Ab]at hv hq;refine⟨vs,hv,?_⟩;refine⟨xs.map (·.1),rfl,by simp[hlen],by rw[hv.1,hl],λi g y hg hy=>?_⟩
   simp only[xq,GG]at hy;obtain⟨z,hz,rfl⟩:=hy;exact(hq i g (by simpa using hg)).2 z hz
  .cases hp
end
