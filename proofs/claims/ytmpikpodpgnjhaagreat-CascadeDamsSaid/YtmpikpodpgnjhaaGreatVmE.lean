/- The value machine, 14: a region whose order is drawn. -/
import Derived.Test.YtmpikpodpgnjhaaGreatVmD
namespace Go.Vm
set_option linter.all false
noncomputable def bP.cW(C:bH)(S:St)(o:bP):Option Out :=
 match o.guard with
 |none=>o.op.cW C S
 |some (g,want)=>match look g S.env with
  |some (.bool b)=>bif b==want then o.op.cW C S else some (.val .undef)
  |some .undef=>some (.val .undef)
  |_=>none
theorem CF(C:bH)(S:St)(o:bP):o.run C S=(o.cW C S).map fun u=>u.app o.dst S:=by
 unfold bP.run bP.cW;cases o.guard with
 |none=>exact Pc C o.dst S o.op
 |some q =>
  obtain⟨g,want⟩:=q;simp only;cases look g S.env with
  |none=>rfl
  |some v =>
   cases v<;>try rfl
   simp only[ni,Option.map_some,qB,Pc]
section
variable {S S':St} {C:bH}
theorem Jm{o:bP}(h:fO S S' o.rd):o.cW C S=o.cW C S':=by
 unfold bP.rd at h;unfold bP.cW;cases hg:o.guard with
 |none=>rw[hg]at h;exact Pk h.right
 |some q =>
  obtain⟨g,want⟩:=q;rw[hg]at h;have h1:look g S.env=look g S'.env:=h.left (.e g) (by simp)
  simp only[h1,Pk (C:=C) h.right]
theorem XY{o:bP}{u:Out}(h:o.cW C S=some u):AB u o.op.wr:=by
 have val:∀v K,AB (Out.val v) K:=fun v K=>⟨by simp[Out.val],by simp[Out.val],by simp[Out.val]⟩
 unfold bP.cW at h;split at h
 ·exact Pl h
 ·rename_i g want _
  split at h
  ·rename_i b _
   cases hb:b==want with
   |true=>simp only[hb,cond_true]at h;exact Pl h
   |false=>simp only[hb,cond_false]at h;cases h;exact val _ _
  ·cases h;exact val _ _
  ·cases h
theorem stays{o:bP}{u:Out}(h:o.cW C S=some u){T:St}{k:Key}(hk:k∉o.wr):same (u.app o.dst T) T k :=
 XX (XY h) hk
def indep(x y:bP):Bool:=x.wr.all (fun k => !(y.rd++y.wr).contains k)&&y.wr.all (fun k => !x.rd.contains k)
theorem XZ{x y:bP}(h:indep x y=true):(∀k∈x.wr,k∉y.rd)∧(∀k∈x.wr,k∉y.wr)∧(∀k∈y.wr,k∉x.rd):=by
 simp only[indep,Bool.and_eq_true,List.all_eq_true,Bool.not_eq_true',List.contains_eq_mem,decide_eq_false_iff_not,List.mem_append,not_or]at h;exact⟨fun k hk=>(h.1 k hk).1,fun k hk=>(h.1 k hk).2,h.2⟩
theorem swap{x y:bP}(hi:indep x y=true){S1 S2:St}(h1:x.run C S=some S1)(h2:y.run C S1=some S2):∃T1 T2,y.run C S=some T1∧x.run C T1=some T2∧Alike S2 T2:=by
 obtain⟨i1,i2,i3⟩:=XZ hi;rw[CF]at h1 h2;cases hx:x.cW C S with
 |none=>rw[hx]at h1;cases h1
 |some u =>
  rw[hx]at h1;simp only[Option.map_some,Option.some.injEq]at h1;subst h1;cases hy:y.cW C (u.app x.dst S) with
  |none=>rw[hy]at h2;cases h2
  |some v =>
   rw[hy]at h2;simp only[Option.map_some,Option.some.injEq]at h2;subst h2;have vb:y.cW C S=some v:=by
    rw[←hy];exact Jm fun k hk=>Ff (stays hx fun hw=>i1 k hw hk)
   have pT:x.cW C (v.app y.dst S)=some u:=by
    rw[←hx];exact Jm fun k hk=>stays vb fun hw=>i3 k hw hk
   refine⟨v.app y.dst S,u.app x.dst (v.app y.dst S),by rw[CF,vb];rfl,by rw[CF,pT];rfl,fun k=>?_⟩
   by_cases hk:k∈y.wr
   ·have Pm:k∉x.wr:=fun h=>i2 k h hk
    exact Fg (Jl (stays hx Pm)) (Ff (stays pT Pm))
   ·exact Fg (stays hy hk) (Jl (Ff (stays vb hk)))
theorem X0(o:bP){S1:St}(h:Alike S S')(h1:o.run C S=some S1):∃S2,o.run C S'=some S2∧Alike S1 S2:=by
 rw[CF]at h1;cases hx:o.cW C S with
 |none=>rw[hx]at h1;cases h1
 |some u =>
  rw[hx]at h1;simp only[Option.map_some,Option.some.injEq]at h1;subst h1;refine⟨u.app o.dst S',?_,fun k=>Jl (h k)⟩;rw[CF,← Jm (C:=C) (o:=o) (S:=S) (S':=S') (fun k _=>h k),hx];rfl
theorem Jp:∀(l:List bP) {S S' T:St},Alike S S'→g5 C l S=some T→∃T',g5 C l S'=some T'∧Alike T T'
 |[],S,S',T,h,h1=>by simp only[g5,Option.some.injEq]at h1;subst h1;exact⟨S',rfl,h⟩
 |o::l,S,S',T,h,h1=>by
  simp only[g5]at h1;split at h1
  ·rename_i S1 hs
   obtain⟨S2,h2,h3⟩:=X0 o h hs;obtain⟨T',h4,h5⟩:=Jp l h3 h1;exact⟨T',by simp only[g5,h2];exact h4,h5⟩
  ·cases h1
theorem Jq:∀(l r:List bP) (S:St),g5 C (l++r) S=(g5 C l S).bind (g5 C r)
 |[],r,S=>rfl
 |o::l,r,S=>by
  simp only[List.cons_append,g5];cases o.run C S with
  |none=>rfl
  |some S'=>exact Jq l r S'
theorem Pn:∀(l:List bP) {x:bP} {S T:St},(∀y∈l,indep y x=true)→g5 C (l++[x]) S=some T→∃T',g5 C (x::l) S=some T'∧Alike T T'
 |[],x,S,T,_,h=>⟨T,h,fun k=>O6 T k⟩
 |y::l,x,S,T,hi,h=>by
  simp only[List.cons_append,g5]at h;split at h
  ·rename_i S1 h1
   obtain⟨T1,h2,h3⟩:=Pn l (fun z hz=>hi z (List.mem_cons_of_mem _ hz)) h;simp only[g5]at h2;split at h2
   ·rename_i S2 h4
    obtain⟨U1,U2,h5,h6,h7⟩:=swap (hi y List.mem_cons_self) h1 h4;obtain⟨T2,h8,h9⟩:=Jp l h7 h2;exact⟨T2,by simp only[g5,h5,h6];exact h8,fun k=>Fg (h3 k) (h9 k)⟩
   ·cases h2
  ·cases h
theorem pull{l r:List bP}{x:bP}{T:St}(hi:∀y∈l,indep y x=true)(h:g5 C (l++x::r) S=some T):∃S1 T',x.run C S=some S1∧g5 C (l++r) S1=some T'∧Alike T T':=by
 rw[show l++x::r=(l++[x])++r from by simp,Jq]at h
 cases h1:g5 C (l++[x]) S with
 |none=>rw[h1]at h;cases h
 |some U =>
  rw[h1]at h;obtain⟨U',h2,h3⟩:=Pn l hi h1;obtain⟨T',h4,h5⟩:=Jp r h3 h;simp only[g5]at h2;split at h2
  ·rename_i S1 h6
   refine⟨S1,T',h6,?_,h5⟩;rw[Jq,h2];exact h4
  ·cases h2
end
section
variable {P:Program} {E:Entry} {g g':Gh} {S S':St} {a:Act} {w w':World} {C:bH}
theorem R.alike(hR:R E g S a w)(h:Alike S S'):R E g S' a w:=by
 have hg:S.az=S'.az:=h .g;have ht:∀f,look f S.bl=look f S'.bl:=fun f=>h (.t f);have lS:∀v x,bh (S.cx g w) v x→bh (S'.cx g w) v x:=fun v x hx=>by
  have le:Le (S.cx g w) (S'.cx g w):=⟨Nat.le_refl _,fun _ _ _ _ h=>h,fun _ _=>Nat.le_refl _,by simp[St.cx,hg],fun _ _=>rfl⟩
  refine bh.mono le hx fun d=>.inl ⟨rfl,rfl,fun k hk=>⟨k,(ht d).trans (show look d S'.bl=some k from hk),Nat.le_refl _,fun _=>⟨rfl,fun _ _=>⟨rfl,fun c _ h=>⟨c,h,rfl⟩⟩⟩⟩⟩
 refine⟨fun s v hs=>?_,fun id cs ho=>?_,fun f k b hf hb=>hR.bl f k b ((ht f).trans hf) hb,hg ▸ hR.az,hR.defers,hR.js,hg ▸ hR.same⟩
 ·obtain⟨x,h1,h2⟩:=hR.env s v ((h (.e s)).trans hs)
  exact⟨x,h1,lS v x h2⟩
 ·rcases hR.bb id cs ((h (.o id)).trans ho) with h0 | ⟨h1,h2,h3,c,e,h4,fD,h5⟩
  ·exact .inl h0
  refine .inr ⟨h1,h2,h3,c,e,h4,fD,fun j v hj=>?_⟩;obtain⟨h6,y,h7,h8⟩:=h5 j v hj;exact⟨h6,y,h7,lS v y h8⟩
def reach(os:Array Oper):Nat→Nat→Nat→Bool
 |0,_,_=>false
 |n+1,i,y=>match os[i]? with
  |some o=>o.after.toList.any fun e=>Region.binds .any e&&(e.on==y || reach os n e.on y)
  |none=>false
def Fo(os:Array Oper)(vs:List bP):Bool :=
 (List.range os.size).all fun i=>(match os[i]? with|some o=>o.after.toList.all fun e => !Region.binds .any e || Nat.blt e.on i|none=>true) &&
  (List.range i).all fun y=>(match vs[y]?,vs[i]? with|some u,some v=>indep u v || reach os os.size i y|_,_=>false)
theorem Po{os:Array Oper}{eM:Array Bool}(AD:∀(j:Nat) o,os[j]?=some o→eM.getD j true=true→∀e∈o.after,Region.binds .any e=true→eM.getD e.on false=true) :
  ∀(n i y:Nat) (o:Oper),os[i]?=some o→(∀e∈o.after,Region.binds .any e=true→eM.getD e.on false=true)→reach os n i y=true→eM.getD y false=true
 |0,_,_,_,_,_,h=>by simp[reach]at h
 |n+1,i,y,o,ho,vv,h=>by
  simp only[reach,ho,List.any_eq_true,Bool.and_eq_true,Bool.or_eq_true,beq_iff_eq]at h;obtain⟨e,he,hb,h⟩:=h;have hm:e∈o.after:=by simpa using he
  rcases h with h|h
  ·rw[←h];exact vv e hm hb
  ·cases wY:os[e.on]? with
   |none=>cases n<;>simp[reach,wY]at h
   |some o' =>
    refine Po AD n e.on y o' wY (AD e.on o' wY ?_) h;have:=vv e hm hb;rcases Nat.lt_or_ge e.on eM.size with h1|h1
    ·simpa [h1] using this
    ·simp[Array.getElem?_eq_none h1]at this
def kI(n:Nat)(eM:Array Bool):List Nat:=(List.range n).filter fun j => !eM.getD j true
theorem X1{n:Nat}{p:Nat→Bool}{i:Nat}(hi:i<n)(hp:p i=true):(List.range n).filter p=(List.range i).filter p++i::((List.range' (i+1) (n-(i+1))).filter p):=by
 have h1:List.range n=List.range i++i::List.range' (i+1) (n-(i+1)):=by
  rw[List.range_eq_range',List.range_eq_range'];have:List.range' 0 n=List.range' 0 i++List.range' i (n-i):=by
   have:=List.range'_append (s:=0) (m:=i) (n:=n-i) (step:=1);simp only[Nat.one_mul,Nat.zero_add]at this;rw[this];congr 1;omega
  rw[this,show n-i=(n-(i+1))+1 from by omega,List.range'_succ]
 rw[h1,List.filter_append,List.filter_cons,if_pos hp]
def se(vs:List bP)(l:List Nat):List bP:=l.filterMap (vs[·]?)
theorem X2{ps:List (Nat×Nat)}(iO:∀f k,look f ps=some k→pS P k f){os:Array Oper}{vs:List bP}{ids:List Nat}{Q:Exit→Act→World→Prop}(bz:vt P ps E.nt os os.toList vs=true)(ki:CC vs ids=true)(Jr:Fo os vs=true)(hC:oO P C){Sn:St}
  (hQ:∀g a w,R E g Sn a w→Q .normal a w):∀(fuel:Nat) (eM:Array Bool) (l:List Nat) (S T:St) (a:Act) (w:World),eM.size=os.size→(kI os.size eM).length=fuel →
   (∀(j:Nat) o,os[j]?=some o→eM.getD j true=true→∀e∈o.after,Region.binds .any e=true→eM.getD e.on false=true) →
   (∀j,j∈l→eM.getD j true=true)→Inv E vs ids l S a w→g5 C (se vs (kI os.size eM)) S=some T→Alike T Sn→wpAny P .any os Q fuel eM a w:=by
 have hlen:=(Az bz).1;simp only[Array.length_toList]at hlen;simp only[Fo,List.all_eq_true,List.mem_range,Bool.and_eq_true]at Jr;have done:∀(eM:Array Bool) (l:List Nat) (S T:St) (a:Act) (w:World),eM.size=os.size→Region.ready .any os eM=[]→Inv E vs ids l S a w→g5 C (se vs (kI os.size eM)) S=some T→Alike T Sn→Q .normal a w:=by
  intro eM l S T a w eG AE hinv aj pU;have X3:kI os.size eM=[]:=by
   cases hu:kI os.size eM with
   |nil=>rfl
   |cons i r =>
    exfalso;have E7:∀j,j∈kI os.size eM↔j<os.size∧eM.getD j true=false:=fun j=>by simp[kI]
    have least:∃i,i∈kI os.size eM∧∀j,j<i→j∉kI os.size eM:=by
     have:∀n,∀i,i≤n→i∈kI os.size eM→∃i,i∈kI os.size eM∧∀j,j<i→j∉kI os.size eM:=by
      intro n;induction n with
      |zero=>intro i hi hm;exact⟨i,hm,fun j hj=>by omega⟩
      |succ n ih =>
       intro i hi hm;by_cases h:∃j,j<i∧j∈kI os.size eM
       ·obtain⟨j,h1,h2⟩:=h
        exact ih j (by omega) h2
       ·exact⟨i,hm,fun j hj X4=>h ⟨j,hj,X4⟩⟩
     exact this i i (Nat.le_refl _) (by rw[hu];exact List.mem_cons_self)
    obtain⟨i,hi,X5⟩:=least;obtain⟨bF,tq⟩:=(E7 i).1 hi;have lU:i∈Region.ready .any os eM:=by
     rw[mem_ready];refine⟨tq,os[i],Array.getElem?_eq_getElem bF,fun e he hb=>?_⟩;have h1:=(Jr i bF).1;rw[Array.getElem?_eq_getElem bF]at h1;simp only[List.all_eq_true,Array.mem_toList_iff]at h1;have h0:=h1 e he;rw[hb]at h0;have h2:e.on<i:=by simpa using h0
     have h3:=X5 e.on h2;rw[E7]at h3;have h4:e.on<eM.size:=by omega
     cases hl:eM.getD e.on false with
     |true=>rfl
     |false =>
      exfalso;refine h3 ⟨by omega,?_⟩
      simp[h4]at hl ⊢;exact hl
    rw[AE]at lU;cases lU
  rw[X3]at aj;simp only[se,List.filterMap_nil,g5,Option.some.injEq]at aj;subst aj;obtain⟨⟨g,hR⟩,_⟩:=hinv;exact hQ g a w (hR.alike pU)
 intro fuel;induction fuel with
 |zero =>
  intro eM l S T a w eG hf AD hl hinv aj pU;have AE:Region.ready .any os eM=[]:=by
   have tq:kI os.size eM=[]:=List.length_eq_zero_iff.1 hf;cases hr:Region.ready .any os eM with
   |nil=>rfl
   |cons i r =>
    exfalso;have:i∈Region.ready .any os eM:=by rw[hr];exact List.mem_cons_self
    rw[mem_ready]at this;obtain⟨h1,o,ho,_⟩:=this;have bF:i<os.size:=(Array.getElem?_eq_some_iff.1 ho).1;have:i∈kI os.size eM:=by simp[kI,bF];simpa using h1
    rw[tq]at this;cases this
  exact⟨AE,done eM l S T a w eG AE hinv aj pU⟩
 |succ fuel ih =>
  intro eM l S T a w eG hf AD hl hinv aj pU;refine⟨fun AE=>done eM l S T a w eG AE hinv aj pU,fun i hi=>?_⟩;rw[mem_ready]at hi;obtain⟨tq,o,ho,vv⟩:=hi;have bF:i<os.size:=(Array.getElem?_eq_some_iff.1 ho).1;have Js:i<vs.length:=by omega
  have Jf:i∉l:=fun h=>by rw[hl i h]at tq;cases tq
  have Jt:=X1 (p:=fun j => !eM.getD j true) bF (by rw[tq];rfl)
  have Ju:se vs (kI os.size eM)=se vs ((List.range i).filter fun j => !eM.getD j true)++vs[i]::se vs ((List.range' (i+1) (os.size-(i+1))).filter fun j => !eM.getD j true):=by
   unfold kI;rw[Jt];simp only[se,List.filterMap_append,List.filterMap_cons,List.getElem?_eq_getElem Js]
  have X6:∀y∈se vs ((List.range i).filter fun j => !eM.getD j true),indep y vs[i]=true:=by
   intro y hy;obtain⟨j,hj,pM⟩:=List.mem_filterMap.1 hy;simp only[List.mem_filter,List.mem_range,Bool.not_eq_true']at hj;have h1:=(Jr i bF).2 j hj.1;rw[pM,List.getElem?_eq_getElem Js]at h1;simp only[Bool.or_eq_true]at h1;rcases h1 with h1|h1
   ·exact h1
   ·exfalso
    have:=Po AD os.size i j o ho vv h1;have ER:j<eM.size:=by omega
    simp[ER]at this hj;rw[this]at hj;exact absurd hj.2 (by simp)
  rw[Ju]at aj;obtain⟨S1,T',h1,h2,h3⟩:=pull X6 aj;refine O3 iO bz ki ho (List.getElem?_eq_getElem Js) Jf hC hinv h1 fun a' w' Fe=>?_;have uF:∀j,(eM.setIfInBounds i true).getD j true=if j=i then true else eM.getD j true:=fun j=>by
   by_cases wZ:j=i
   ·subst wZ;simp[eG,bF]
   ·rw[if_neg wZ,getD_set_ne true (fun e=>wZ e.symm)]
  have Pp:∀j,eM.getD j false=true→(eM.setIfInBounds i true).getD j false=true:=fun j h=>getD_set_true h;have sf:kI os.size (eM.setIfInBounds i true)=((List.range i).filter fun j => !eM.getD j true)++((List.range' (i+1) (os.size-(i+1))).filter fun j => !eM.getD j true):=by
   have h4:kI os.size (eM.setIfInBounds i true)=((List.range os.size).filter fun j => !eM.getD j true).filter fun j=>decide (j≠i):=by
    unfold kI;rw[List.filter_filter];apply List.filter_congr;intro j _;rw[uF];by_cases wZ:j=i<;>simp[wZ]
   rw[h4,Jt,List.filter_append,List.filter_cons,if_neg (by simp)]
   congr 1
   ·apply List.filter_eq_self.2
    intro j hj;simp only[List.mem_filter,List.mem_range]at hj;simp;omega
   ·apply List.filter_eq_self.2
    intro j hj;simp only[List.mem_filter,List.mem_range'_1]at hj;simp;omega
  refine ih (eM.setIfInBounds i true) (i::l) S1 T' a' w' (by simp[eG]) ?_ ?_ ?_ Fe ?_ (fun k=>Fg (Ff (h3 k)) (pU k))
  ·have:(kI os.size eM).length=fuel+1:=hf
   unfold kI at this;rw[Jt]at this;rw[sf];simp at this ⊢;omega
  ·intro j o' wY hj e he hb
   rw[uF]at hj;by_cases wZ:j=i
   ·subst wZ
    rw[ho]at wY;cases wY;exact Pp _ (vv e he hb)
   ·rw[if_neg wZ]at hj
    exact Pp _ (AD j o' wY hj e he hb)
  ·intro j hj
   rw[uF];rcases List.mem_cons.1 hj with h|h
   ·rw[if_pos h]
   ·split
    ·rfl
    ·exact hl j h
  ·rw[sf]
   simp only[se,List.filterMap_append];exact h2
end
end Go.Vm
