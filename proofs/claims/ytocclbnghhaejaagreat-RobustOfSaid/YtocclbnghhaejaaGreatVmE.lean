/- The value machine, 14: a region whose order is drawn. -/
import Derived.Test.YtocclbnghhaejaaGreatVmD
namespace Go.Vm
set_option linter.all false
noncomputable def bH.cP(C:bw)(S:St)(o:bH):Option Out :=
 match o.guard with
 |none=>o.op.cP C S
 |some (g,want)=>match look g S.env with
  |some (.bool b)=>bif b==want then o.op.cP C S else some (.val .undef)
  |some .undef=>some (.val .undef)
  |_=>none
theorem ET(C:bw)(S:St)(o:bH):o.run C S=(o.cP C S).map fun u=>u.app o.dst S:=by
 unfold bH.run bH.cP;cases o.guard with
 |none=>exact ao5 C o.dst S o.op
 |some q =>
  obtain⟨g,want⟩:=q;simp only;cases look g S.env with
  |none=>rfl
  |some v =>
   cases v<;>try rfl
   simp only[nT,Option.map_some,rI,ao5]
section
variable {S S':St} {C:bw}
theorem LX{o:bH}(h:fU S S' o.rd):o.cP C S=o.cP C S':=by
 unfold bH.rd at h;unfold bH.cP;cases hg:o.guard with
 |none=>rw[hg]at h;exact Sk h.right
 |some q =>
  obtain⟨g,want⟩:=q;rw[hg]at h;have h1:look g S.env=look g S'.env:=h.left (.e g) (by simp)
  simp only[h1,Sk (C:=C) h.right]
theorem adU{o:bH}{u:Out}(h:o.cP C S=some u):CN u o.op.wr:=by
 have val:∀v K,CN (Out.val v) K:=fun v K=>⟨by simp[Out.val],by simp[Out.val],by simp[Out.val]⟩
 unfold bH.cP at h;split at h
 ·exact Sl h
 ·rename_i g want _
  split at h
  ·rename_i b _
   cases hb:b==want with
   |true=>simp only[hb,cond_true]at h;exact Sl h
   |false=>simp only[hb,cond_false]at h;cases h;exact val _ _
  ·cases h;exact val _ _
  ·cases h
theorem stays{o:bH}{u:Out}(h:o.cP C S=some u){T:St}{k:Key}(hk:k∉o.wr):same (u.app o.dst T) T k :=
 adT (adU h) hk
def indep(x y:bH):Bool:=x.wr.all (fun k => !(y.rd++y.wr).contains k)&&y.wr.all (fun k => !x.rd.contains k)
theorem adV{x y:bH}(h:indep x y=true):(∀k∈x.wr,k∉y.rd)∧(∀k∈x.wr,k∉y.wr)∧(∀k∈y.wr,k∉x.rd):=by
 simp only[indep,Bool.and_eq_true,List.all_eq_true,Bool.not_eq_true',List.contains_eq_mem,decide_eq_false_iff_not,List.mem_append,not_or]at h;exact⟨fun k hk=>(h.1 k hk).1,fun k hk=>(h.1 k hk).2,h.2⟩
theorem swap{x y:bH}(hi:indep x y=true){S1 S2:St}(h1:x.run C S=some S1)(h2:y.run C S1=some S2):∃T1 T2,y.run C S=some T1∧x.run C T1=some T2∧Alike S2 T2:=by
 obtain⟨i1,i2,i3⟩:=adV hi;rw[ET]at h1 h2;cases hx:x.cP C S with
 |none=>rw[hx]at h1;cases h1
 |some u =>
  rw[hx]at h1;simp only[Option.map_some,Option.some.injEq]at h1;subst h1;cases hy:y.cP C (u.app x.dst S) with
  |none=>rw[hy]at h2;cases h2
  |some v =>
   rw[hy]at h2;simp only[Option.map_some,Option.some.injEq]at h2;subst h2;have xb:y.cP C S=some v:=by
    rw[←hy];exact LX fun k hk=>HV (stays hx fun hw=>i1 k hw hk)
   have qF:x.cP C (v.app y.dst S)=some u:=by
    rw[←hx];exact LX fun k hk=>stays xb fun hw=>i3 k hw hk
   refine⟨v.app y.dst S,u.app x.dst (v.app y.dst S),by rw[ET,xb];rfl,by rw[ET,qF];rfl,fun k=>?_⟩
   by_cases hk:k∈y.wr
   ·have Sq:k∉x.wr:=fun h=>i2 k h hk
    exact HW (LW (stays hx Sq)) (HV (stays qF Sq))
   ·exact HW (stays hy hk) (LW (HV (stays xb hk)))
theorem adW(o:bH){S1:St}(h:Alike S S')(h1:o.run C S=some S1):∃S2,o.run C S'=some S2∧Alike S1 S2:=by
 rw[ET]at h1;cases hx:o.cP C S with
 |none=>rw[hx]at h1;cases h1
 |some u =>
  rw[hx]at h1;simp only[Option.map_some,Option.some.injEq]at h1;subst h1;refine⟨u.app o.dst S',?_,fun k=>LW (h k)⟩;rw[ET,← LX (C:=C) (o:=o) (S:=S) (S':=S') (fun k _=>h k),hx];rfl
theorem LZ:∀(l:List bH) {S S' T:St},Alike S S'→gL C l S=some T→∃T',gL C l S'=some T'∧Alike T T'
 |[],S,S',T,h,h1=>by simp only[gL,Option.some.injEq]at h1;subst h1;exact⟨S',rfl,h⟩
 |o::l,S,S',T,h,h1=>by
  simp only[gL]at h1;split at h1
  ·rename_i S1 hs
   obtain⟨S2,h2,h3⟩:=adW o h hs;obtain⟨T',h4,h5⟩:=LZ l h3 h1;exact⟨T',by simp only[gL,h2];exact h4,h5⟩
  ·cases h1
theorem L0:∀(l r:List bH) (S:St),gL C (l++r) S=(gL C l S).bind (gL C r)
 |[],r,S=>rfl
 |o::l,r,S=>by
  simp only[List.cons_append,gL];cases o.run C S with
  |none=>rfl
  |some S'=>exact L0 l r S'
theorem Sr:∀(l:List bH) {x:bH} {S T:St},(∀y∈l,indep y x=true)→gL C (l++[x]) S=some T→∃T',gL C (x::l) S=some T'∧Alike T T'
 |[],x,S,T,_,h=>⟨T,h,fun k=>R7 T k⟩
 |y::l,x,S,T,hi,h=>by
  simp only[List.cons_append,gL]at h;split at h
  ·rename_i S1 h1
   obtain⟨T1,h2,h3⟩:=Sr l (fun z hz=>hi z (List.mem_cons_of_mem _ hz)) h;simp only[gL]at h2;split at h2
   ·rename_i S2 h4
    obtain⟨U1,U2,h5,h6,h7⟩:=swap (hi y List.mem_cons_self) h1 h4;obtain⟨T2,h8,h9⟩:=LZ l h7 h2;exact⟨T2,by simp only[gL,h5,h6];exact h8,fun k=>HW (h3 k) (h9 k)⟩
   ·cases h2
  ·cases h
theorem pull{l r:List bH}{x:bH}{T:St}(hi:∀y∈l,indep y x=true)(h:gL C (l++x::r) S=some T):∃S1 T',x.run C S=some S1∧gL C (l++r) S1=some T'∧Alike T T':=by
 rw[show l++x::r=(l++[x])++r from by simp,L0]at h
 cases h1:gL C (l++[x]) S with
 |none=>rw[h1]at h;cases h
 |some U =>
  rw[h1]at h;obtain⟨U',h2,h3⟩:=Sr l hi h1;obtain⟨T',h4,h5⟩:=LZ r h3 h;simp only[gL]at h2;split at h2
  ·rename_i S1 h6
   refine⟨S1,T',h6,?_,h5⟩;rw[L0,h2];exact h4
  ·cases h2
end
section
variable {P:Program} {E:Entry} {g g':Gh} {S S':St} {a:Act} {w w':World} {C:bw}
theorem R.alike(hR:R E g S a w)(h:Alike S S'):R E g S' a w:=by
 have hg:S.aF=S'.aF:=h .g;have ht:∀f,look f S.bg=look f S'.bg:=fun f=>h (.t f);have lZ:∀v x,aZ (S.cx g w) v x→aZ (S'.cx g w) v x:=fun v x hx=>by
  have le:Le (S.cx g w) (S'.cx g w):=⟨Nat.le_refl _,fun _ _ _ _ h=>h,fun _ _=>Nat.le_refl _,by simp[St.cx,hg],fun _ _=>rfl⟩
  refine aZ.mono le hx fun d=>.inl ⟨rfl,rfl,fun k hk=>⟨k,(ht d).trans (show look d S'.bg=some k from hk),Nat.le_refl _,fun _=>⟨rfl,fun _ _=>⟨rfl,fun c _ h=>⟨c,h,rfl⟩⟩⟩⟩⟩
 refine⟨fun s v hs=>?_,fun id cs ho=>?_,fun f k b hf hb=>hR.bg f k b ((ht f).trans hf) hb,hg ▸ hR.aF,hR.defers,hR.jh,hg ▸ hR.same⟩
 ·obtain⟨x,h1,h2⟩:=hR.env s v ((h (.e s)).trans hs)
  exact⟨x,h1,lZ v x h2⟩
 ·rcases hR.aU id cs ((h (.o id)).trans ho) with h0 | ⟨h1,h2,h3,c,e,h4,fC,h5⟩
  ·exact .inl h0
  refine .inr ⟨h1,h2,h3,c,e,h4,fC,fun j v hj=>?_⟩;obtain⟨h6,y,h7,h8⟩:=h5 j v hj;exact⟨h6,y,h7,lZ v y h8⟩
def reach(os:Array Oper):Nat→Nat→Nat→Bool
 |0,_,_=>false
 |n+1,i,y=>match os[i]? with
  |some o=>o.after.toList.any fun e=>Region.binds .any e&&(e.on==y || reach os n e.on y)
  |none=>false
def H2(os:Array Oper)(vs:List bH):Bool :=
 (List.range os.size).all fun i=>(match os[i]? with|some o=>o.after.toList.all fun e => !Region.binds .any e || Nat.blt e.on i|none=>true) &&
  (List.range i).all fun y=>(match vs[y]?,vs[i]? with|some u,some v=>indep u v || reach os os.size i y|_,_=>false)
theorem Ss{os:Array Oper}{eC:Array Bool}(CO:∀(j:Nat) o,os[j]?=some o→eC.getD j true=true→∀e∈o.after,Region.binds .any e=true→eC.getD e.on false=true) :
  ∀(n i y:Nat) (o:Oper),os[i]?=some o→(∀e∈o.after,Region.binds .any e=true→eC.getD e.on false=true)→reach os n i y=true→eC.getD y false=true
 |0,_,_,_,_,_,h=>by simp[reach]at h
 |n+1,i,y,o,ho,xr,h=>by
  simp only[reach,ho,List.any_eq_true,Bool.and_eq_true,Bool.or_eq_true,beq_iff_eq]at h;obtain⟨e,he,hb,h⟩:=h;have hm:e∈o.after:=by simpa using he
  rcases h with h|h
  ·rw[←h];exact xr e hm hb
  ·cases zC:os[e.on]? with
   |none=>cases n<;>simp[reach,zC]at h
   |some o' =>
    refine Ss CO n e.on y o' zC (CO e.on o' zC ?_) h;have:=xr e hm hb;rcases Nat.lt_or_ge e.on eC.size with h1|h1
    ·simpa [h1] using this
    ·simp[Array.getElem?_eq_none h1]at this
def lj(n:Nat)(eC:Array Bool):List Nat:=(List.range n).filter fun j => !eC.getD j true
theorem adX{n:Nat}{p:Nat→Bool}{i:Nat}(hi:i<n)(hp:p i=true):(List.range n).filter p=(List.range i).filter p++i::((List.range' (i+1) (n-(i+1))).filter p):=by
 have h1:List.range n=List.range i++i::List.range' (i+1) (n-(i+1)):=by
  rw[List.range_eq_range',List.range_eq_range'];have:List.range' 0 n=List.range' 0 i++List.range' i (n-i):=by
   have:=List.range'_append (s:=0) (m:=i) (n:=n-i) (step:=1);simp only[Nat.one_mul,Nat.zero_add]at this;rw[this];congr 1;omega
  rw[this,show n-i=(n-(i+1))+1 from by omega,List.range'_succ]
 rw[h1,List.filter_append,List.filter_cons,if_pos hp]
def tQ(vs:List bH)(l:List Nat):List bH:=l.filterMap (vs[·]?)
theorem adY{ps:List (Nat×Nat)}(iY:∀f k,look f ps=some k→qD P k f){os:Array Oper}{vs:List bH}{ids:List Nat}{Q:Exit→Act→World→Prop}(bn:xp P ps E.nt os os.toList vs=true)(kN:EP vs ids=true)(L1:H2 os vs=true)(hC:oD P C){Sn:St}
  (hQ:∀g a w,R E g Sn a w→Q .normal a w):∀(fuel:Nat) (eC:Array Bool) (l:List Nat) (S T:St) (a:Act) (w:World),eC.size=os.size→(lj os.size eC).length=fuel →
   (∀(j:Nat) o,os[j]?=some o→eC.getD j true=true→∀e∈o.after,Region.binds .any e=true→eC.getD e.on false=true) →
   (∀j,j∈l→eC.getD j true=true)→Inv E vs ids l S a w→gL C (tQ vs (lj os.size eC)) S=some T→Alike T Sn→wpAny P .any os Q fuel eC a w:=by
 have hlen:=(CL bn).1;simp only[Array.length_toList]at hlen;simp only[H2,List.all_eq_true,List.mem_range,Bool.and_eq_true]at L1;have done:∀(eC:Array Bool) (l:List Nat) (S T:St) (a:Act) (w:World),eC.size=os.size→Region.ready .any os eC=[]→Inv E vs ids l S a w→gL C (tQ vs (lj os.size eC)) S=some T→Alike T Sn→Q .normal a w:=by
  intro eC l S T a w eb CP hinv ah qG;have adZ:lj os.size eC=[]:=by
   cases hu:lj os.size eC with
   |nil=>rfl
   |cons i r =>
    exfalso;have HN:∀j,j∈lj os.size eC↔j<os.size∧eC.getD j true=false:=fun j=>by simp[lj]
    have least:∃i,i∈lj os.size eC∧∀j,j<i→j∉lj os.size eC:=by
     have:∀n,∀i,i≤n→i∈lj os.size eC→∃i,i∈lj os.size eC∧∀j,j<i→j∉lj os.size eC:=by
      intro n;induction n with
      |zero=>intro i hi hm;exact⟨i,hm,fun j hj=>by omega⟩
      |succ n ih =>
       intro i hi hm;by_cases h:∃j,j<i∧j∈lj os.size eC
       ·obtain⟨j,h1,h2⟩:=h
        exact ih j (by omega) h2
       ·exact⟨i,hm,fun j hj hjm=>h ⟨j,hj,hjm⟩⟩
     exact this i i (Nat.le_refl _) (by rw[hu];exact List.mem_cons_self)
    obtain⟨i,hi,ad1⟩:=least;obtain⟨bA,u5⟩:=(HN i).1 hi;have nN:i∈Region.ready .any os eC:=by
     rw[mem_ready];refine⟨u5,os[i],Array.getElem?_eq_getElem bA,fun e he hb=>?_⟩;have h1:=(L1 i bA).1;rw[Array.getElem?_eq_getElem bA]at h1;simp only[List.all_eq_true,Array.mem_toList_iff]at h1;have h0:=h1 e he;rw[hb]at h0;have h2:e.on<i:=by simpa using h0
     have h3:=ad1 e.on h2;rw[HN]at h3;have h4:e.on<eC.size:=by omega
     cases hl:eC.getD e.on false with
     |true=>rfl
     |false =>
      exfalso;refine h3 ⟨by omega,?_⟩
      simp[h4]at hl ⊢;exact hl
    rw[CP]at nN;cases nN
  rw[adZ]at ah;simp only[tQ,List.filterMap_nil,gL,Option.some.injEq]at ah;subst ah;obtain⟨⟨g,hR⟩,_⟩:=hinv;exact hQ g a w (hR.alike qG)
 intro fuel;induction fuel with
 |zero =>
  intro eC l S T a w eb hf CO hl hinv ah qG;have CP:Region.ready .any os eC=[]:=by
   have u5:lj os.size eC=[]:=List.length_eq_zero_iff.1 hf;cases hr:Region.ready .any os eC with
   |nil=>rfl
   |cons i r =>
    exfalso;have:i∈Region.ready .any os eC:=by rw[hr];exact List.mem_cons_self
    rw[mem_ready]at this;obtain⟨h1,o,ho,_⟩:=this;have bA:i<os.size:=(Array.getElem?_eq_some_iff.1 ho).1;have:i∈lj os.size eC:=by simp[lj,bA];simpa using h1
    rw[u5]at this;cases this
  exact⟨CP,done eC l S T a w eb CP hinv ah qG⟩
 |succ fuel ih =>
  intro eC l S T a w eb hf CO hl hinv ah qG;refine⟨fun CP=>done eC l S T a w eb CP hinv ah qG,fun i hi=>?_⟩;rw[mem_ready]at hi;obtain⟨u5,o,ho,xr⟩:=hi;have bA:i<os.size:=(Array.getElem?_eq_some_iff.1 ho).1;have L2:i<vs.length:=by omega
  have HS:i∉l:=fun h=>by rw[hl i h]at u5;cases u5
  have L3:=adX (p:=fun j => !eC.getD j true) bA (by rw[u5];rfl)
  have L4:tQ vs (lj os.size eC)=tQ vs ((List.range i).filter fun j => !eC.getD j true)++vs[i]::tQ vs ((List.range' (i+1) (os.size-(i+1))).filter fun j => !eC.getD j true):=by
   unfold lj;rw[L3];simp only[tQ,List.filterMap_append,List.filterMap_cons,List.getElem?_eq_getElem L2]
  have ad2:∀y∈tQ vs ((List.range i).filter fun j => !eC.getD j true),indep y vs[i]=true:=by
   intro y hy;obtain⟨j,hj,qw⟩:=List.mem_filterMap.1 hy;simp only[List.mem_filter,List.mem_range,Bool.not_eq_true']at hj;have h1:=(L1 i bA).2 j hj.1;rw[qw,List.getElem?_eq_getElem L2]at h1;simp only[Bool.or_eq_true]at h1;rcases h1 with h1|h1
   ·exact h1
   ·exfalso
    have:=Ss CO os.size i j o ho xr h1;have HB:j<eC.size:=by omega
    simp[HB]at this hj;rw[this]at hj;exact absurd hj.2 (by simp)
  rw[L4]at ah;obtain⟨S1,T',h1,h2,h3⟩:=pull ad2 ah;refine R4 iY bn kN ho (List.getElem?_eq_getElem L2) HS hC hinv h1 fun a' w' HU=>?_;have wh:∀j,(eC.setIfInBounds i true).getD j true=if j=i then true else eC.getD j true:=fun j=>by
   by_cases zD:j=i
   ·subst zD;simp[eb,bA]
   ·rw[if_neg zD,getD_set_ne true (fun e=>zD e.symm)]
  have Su:∀j,eC.getD j false=true→(eC.setIfInBounds i true).getD j false=true:=fun j h=>getD_set_true h;have tR:lj os.size (eC.setIfInBounds i true)=((List.range i).filter fun j => !eC.getD j true)++((List.range' (i+1) (os.size-(i+1))).filter fun j => !eC.getD j true):=by
   have h4:lj os.size (eC.setIfInBounds i true)=((List.range os.size).filter fun j => !eC.getD j true).filter fun j=>decide (j≠i):=by
    unfold lj;rw[List.filter_filter];apply List.filter_congr;intro j _;rw[wh];by_cases zD:j=i<;>simp[zD]
   rw[h4,L3,List.filter_append,List.filter_cons,if_neg (by simp)]
   congr 1
   ·apply List.filter_eq_self.2
    intro j hj;simp only[List.mem_filter,List.mem_range]at hj;simp;omega
   ·apply List.filter_eq_self.2
    intro j hj;simp only[List.mem_filter,List.mem_range'_1]at hj;simp;omega
  refine ih (eC.setIfInBounds i true) (i::l) S1 T' a' w' (by simp[eb]) ?_ ?_ ?_ HU ?_ (fun k=>HW (HV (h3 k)) (qG k))
  ·have:(lj os.size eC).length=fuel+1:=hf
   unfold lj at this;rw[L3]at this;rw[tR];simp at this ⊢;omega
  ·intro j o' zC hj e he hb
   rw[wh]at hj;by_cases zD:j=i
   ·subst zD
    rw[ho]at zC;cases zC;exact Su _ (xr e he hb)
   ·rw[if_neg zD]at hj
    exact Su _ (CO j o' zC hj e he hb)
  ·intro j hj
   rw[wh];rcases List.mem_cons.1 hj with h|h
   ·rw[if_pos h]
   ·split
    ·rfl
    ·exact hl j h
  ·rw[tR]
   simp only[tQ,List.filterMap_append];exact h2
end
end Go.Vm
