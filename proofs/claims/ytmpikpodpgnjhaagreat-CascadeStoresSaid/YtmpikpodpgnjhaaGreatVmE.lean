/- The value machine, 14: a region whose order is drawn. -/
import Derived.Test.YtmpikpodpgnjhaaGreatVmD
namespace Go.Vm
set_option linter.all false
noncomputable def bN.cK(C:bm)(S:St)(o:bN):Option Out :=
 match o.guard with
 |none=>o.op.cK C S
 |some (g,want)=>match look g S.env with
  |some (.bool b)=>bif b==want then o.op.cK C S else some (.val .undef)
  |some .undef=>some (.val .undef)
  |_=>none
theorem Cy(C:bm)(S:St)(o:bN):o.run C S=(o.cK C S).map fun u=>u.app o.dst S:=by
 unfold bN.run bN.cK;cases o.guard with
 |none=>exact O5 C o.dst S o.op
 |some q =>
  obtain⟨g,want⟩:=q;simp only;cases look g S.env with
  |none=>rfl
  |some v =>
   cases v<;>try rfl
   simp only[m7,Option.map_some,qm,O5]
section
variable {S S':St} {C:bm}
theorem Jh{o:bN}(h:fk S S' o.rd):o.cK C S=o.cK C S':=by
 unfold bN.rd at h;unfold bN.cK;cases hg:o.guard with
 |none=>rw[hg]at h;exact Pd h.right
 |some q =>
  obtain⟨g,want⟩:=q;rw[hg]at h;have h1:look g S.env=look g S'.env:=h.left (.e g) (by simp)
  simp only[h1,Pd (C:=C) h.right]
theorem ZL{o:bN}{u:Out}(h:o.cK C S=some u):AH u o.op.wr:=by
 have val:∀v K,AH (Out.val v) K:=fun v K=>⟨by simp[Out.val],by simp[Out.val],by simp[Out.val]⟩
 unfold bN.cK at h;split at h
 ·exact Pe h
 ·rename_i g want _
  split at h
  ·rename_i b _
   cases hb:b==want with
   |true=>simp only[hb,cond_true]at h;exact Pe h
   |false=>simp only[hb,cond_false]at h;cases h;exact val _ _
  ·cases h;exact val _ _
  ·cases h
theorem stays{o:bN}{u:Out}(h:o.cK C S=some u){T:St}{k:Key}(hk:k∉o.wr):same (u.app o.dst T) T k :=
 ZK (ZL h) hk
def indep(x y:bN):Bool:=x.wr.all (fun k => !(y.rd++y.wr).contains k)&&y.wr.all (fun k => !x.rd.contains k)
theorem ZM{x y:bN}(h:indep x y=true):(∀k∈x.wr,k∉y.rd)∧(∀k∈x.wr,k∉y.wr)∧(∀k∈y.wr,k∉x.rd):=by
 simp only[indep,Bool.and_eq_true,List.all_eq_true,Bool.not_eq_true',List.contains_eq_mem,decide_eq_false_iff_not,List.mem_append,not_or]at h;exact⟨fun k hk=>(h.1 k hk).1,fun k hk=>(h.1 k hk).2,h.2⟩
theorem swap{x y:bN}(hi:indep x y=true){S1 S2:St}(h1:x.run C S=some S1)(h2:y.run C S1=some S2):∃T1 T2,y.run C S=some T1∧x.run C T1=some T2∧Alike S2 T2:=by
 obtain⟨i1,i2,i3⟩:=ZM hi;rw[Cy]at h1 h2;cases hx:x.cK C S with
 |none=>rw[hx]at h1;cases h1
 |some u =>
  rw[hx]at h1;simp only[Option.map_some,Option.some.injEq]at h1;subst h1;cases hy:y.cK C (u.app x.dst S) with
  |none=>rw[hy]at h2;cases h2
  |some v =>
   rw[hy]at h2;simp only[Option.map_some,Option.some.injEq]at h2;subst h2;have vB:y.cK C S=some v:=by
    rw[←hy];exact Jh fun k hk=>Ff (stays hx fun hw=>i1 k hw hk)
   have pC:x.cK C (v.app y.dst S)=some u:=by
    rw[←hx];exact Jh fun k hk=>stays vB fun hw=>i3 k hw hk
   refine⟨v.app y.dst S,u.app x.dst (v.app y.dst S),by rw[Cy,vB];rfl,by rw[Cy,pC];rfl,fun k=>?_⟩
   by_cases hk:k∈y.wr
   ·have Pf:k∉x.wr:=fun h=>i2 k h hk
    exact Fg (Jg (stays hx Pf)) (Ff (stays pC Pf))
   ·exact Fg (stays hy hk) (Jg (Ff (stays vB hk)))
theorem ZN(o:bN){S1:St}(h:Alike S S')(h1:o.run C S=some S1):∃S2,o.run C S'=some S2∧Alike S1 S2:=by
 rw[Cy]at h1;cases hx:o.cK C S with
 |none=>rw[hx]at h1;cases h1
 |some u =>
  rw[hx]at h1;simp only[Option.map_some,Option.some.injEq]at h1;subst h1;refine⟨u.app o.dst S',?_,fun k=>Jg (h k)⟩;rw[Cy,← Jh (C:=C) (o:=o) (S:=S) (S':=S') (fun k _=>h k),hx];rfl
theorem Jj:∀(l:List bN) {S S' T:St},Alike S S'→fZ C l S=some T→∃T',fZ C l S'=some T'∧Alike T T'
 |[],S,S',T,h,h1=>by simp only[fZ,Option.some.injEq]at h1;subst h1;exact⟨S',rfl,h⟩
 |o::l,S,S',T,h,h1=>by
  simp only[fZ]at h1;split at h1
  ·rename_i S1 hs
   obtain⟨S2,h2,h3⟩:=ZN o h hs;obtain⟨T',h4,h5⟩:=Jj l h3 h1;exact⟨T',by simp only[fZ,h2];exact h4,h5⟩
  ·cases h1
theorem Jk:∀(l r:List bN) (S:St),fZ C (l++r) S=(fZ C l S).bind (fZ C r)
 |[],r,S=>rfl
 |o::l,r,S=>by
  simp only[List.cons_append,fZ];cases o.run C S with
  |none=>rfl
  |some S'=>exact Jk l r S'
theorem Pg:∀(l:List bN) {x:bN} {S T:St},(∀y∈l,indep y x=true)→fZ C (l++[x]) S=some T→∃T',fZ C (x::l) S=some T'∧Alike T T'
 |[],x,S,T,_,h=>⟨T,h,fun k=>O0 T k⟩
 |y::l,x,S,T,hi,h=>by
  simp only[List.cons_append,fZ]at h;split at h
  ·rename_i S1 h1
   obtain⟨T1,h2,h3⟩:=Pg l (fun z hz=>hi z (List.mem_cons_of_mem _ hz)) h;simp only[fZ]at h2;split at h2
   ·rename_i S2 h4
    obtain⟨U1,U2,h5,h6,h7⟩:=swap (hi y List.mem_cons_self) h1 h4;obtain⟨T2,h8,h9⟩:=Jj l h7 h2;exact⟨T2,by simp only[fZ,h5,h6];exact h8,fun k=>Fg (h3 k) (h9 k)⟩
   ·cases h2
  ·cases h
theorem pull{l r:List bN}{x:bN}{T:St}(hi:∀y∈l,indep y x=true)(h:fZ C (l++x::r) S=some T):∃S1 T',x.run C S=some S1∧fZ C (l++r) S1=some T'∧Alike T T':=by
 rw[show l++x::r=(l++[x])++r from by simp,Jk]at h
 cases h1:fZ C (l++[x]) S with
 |none=>rw[h1]at h;cases h
 |some U =>
  rw[h1]at h;obtain⟨U',h2,h3⟩:=Pg l hi h1;obtain⟨T',h4,h5⟩:=Jj r h3 h;simp only[fZ]at h2;split at h2
  ·rename_i S1 h6
   refine⟨S1,T',h6,?_,h5⟩;rw[Jk,h2];exact h4
  ·cases h2
end
section
variable {P:Program} {E:Entry} {g g':Gh} {S S':St} {a:Act} {w w':World} {C:bm}
theorem R.alike(hR:R E g S a w)(h:Alike S S'):R E g S' a w:=by
 have hg:S.ay=S'.ay:=h .g;have ht:∀f,look f S.a7=look f S'.a7:=fun f=>h (.t f);have lJ:∀v x,aY (S.cx g w) v x→aY (S'.cx g w) v x:=fun v x hx=>by
  have le:Le (S.cx g w) (S'.cx g w):=⟨Nat.le_refl _,fun _ _ _ _ h=>h,fun _ _=>Nat.le_refl _,by simp[St.cx,hg],fun _ _=>rfl⟩
  refine aY.mono le hx fun d=>.inl ⟨rfl,rfl,fun k hk=>⟨k,(ht d).trans (show look d S'.a7=some k from hk),Nat.le_refl _,fun _=>⟨rfl,fun _ _=>⟨rfl,fun c _ h=>⟨c,h,rfl⟩⟩⟩⟩⟩
 refine⟨fun s v hs=>?_,fun id cs ho=>?_,fun f k b hf hb=>hR.a7 f k b ((ht f).trans hf) hb,hg ▸ hR.ay,hR.defers,hR.jb,hg ▸ hR.same⟩
 ·obtain⟨x,h1,h2⟩:=hR.env s v ((h (.e s)).trans hs)
  exact⟨x,h1,lJ v x h2⟩
 ·rcases hR.aV id cs ((h (.o id)).trans ho) with h0 | ⟨h1,h2,h3,c,e,h4,eT,h5⟩
  ·exact .inl h0
  refine .inr ⟨h1,h2,h3,c,e,h4,eT,fun j v hj=>?_⟩;obtain⟨h6,y,h7,h8⟩:=h5 j v hj;exact⟨h6,y,h7,lJ v y h8⟩
def reach(os:Array Oper):Nat→Nat→Nat→Bool
 |0,_,_=>false
 |n+1,i,y=>match os[i]? with
  |some o=>o.after.toList.any fun e=>Region.binds .any e&&(e.on==y || reach os n e.on y)
  |none=>false
def Fo(os:Array Oper)(vs:List bN):Bool :=
 (List.range os.size).all fun i=>(match os[i]? with|some o=>o.after.toList.all fun e => !Region.binds .any e || Nat.blt e.on i|none=>true) &&
  (List.range i).all fun y=>(match vs[y]?,vs[i]? with|some u,some v=>indep u v || reach os os.size i y|_,_=>false)
theorem Ph{os:Array Oper}{eo:Array Bool}(AI:∀(j:Nat) o,os[j]?=some o→eo.getD j true=true→∀e∈o.after,Region.binds .any e=true→eo.getD e.on false=true) :
  ∀(n i y:Nat) (o:Oper),os[i]?=some o→(∀e∈o.after,Region.binds .any e=true→eo.getD e.on false=true)→reach os n i y=true→eo.getD y false=true
 |0,_,_,_,_,_,h=>by simp[reach]at h
 |n+1,i,y,o,ho,vV,h=>by
  simp only[reach,ho,List.any_eq_true,Bool.and_eq_true,Bool.or_eq_true,beq_iff_eq]at h;obtain⟨e,he,hb,h⟩:=h;have hm:e∈o.after:=by simpa using he
  rcases h with h|h
  ·rw[←h];exact vV e hm hb
  ·cases xk:os[e.on]? with
   |none=>cases n<;>simp[reach,xk]at h
   |some o' =>
    refine Ph AI n e.on y o' xk (AI e.on o' xk ?_) h;have:=vV e hm hb;rcases Nat.lt_or_ge e.on eo.size with h1|h1
    ·simpa [h1] using this
    ·simp[Array.getElem?_eq_none h1]at this
def kz(n:Nat)(eo:Array Bool):List Nat:=(List.range n).filter fun j => !eo.getD j true
theorem ZO{n:Nat}{p:Nat→Bool}{i:Nat}(hi:i<n)(hp:p i=true):(List.range n).filter p=(List.range i).filter p++i::((List.range' (i+1) (n-(i+1))).filter p):=by
 have h1:List.range n=List.range i++i::List.range' (i+1) (n-(i+1)):=by
  rw[List.range_eq_range',List.range_eq_range'];have:List.range' 0 n=List.range' 0 i++List.range' i (n-i):=by
   have:=List.range'_append (s:=0) (m:=i) (n:=n-i) (step:=1);simp only[Nat.one_mul,Nat.zero_add]at this;rw[this];congr 1;omega
  rw[this,show n-i=(n-(i+1))+1 from by omega,List.range'_succ]
 rw[h1,List.filter_append,List.filter_cons,if_pos hp]
def sE(vs:List bN)(l:List Nat):List bN:=l.filterMap (vs[·]?)
theorem ZP{ps:List (Nat×Nat)}(iq:∀f k,look f ps=some k→pB P k f){os:Array Oper}{vs:List bN}{ids:List Nat}{Q:Exit→Act→World→Prop}(bg:vT P ps E.nt os os.toList vs=true)(jY:Cq vs ids=true)(Jl:Fo os vs=true)(hC:oj P C){Sn:St}
  (hQ:∀g a w,R E g Sn a w→Q .normal a w):∀(fuel:Nat) (eo:Array Bool) (l:List Nat) (S T:St) (a:Act) (w:World),eo.size=os.size→(kz os.size eo).length=fuel →
   (∀(j:Nat) o,os[j]?=some o→eo.getD j true=true→∀e∈o.after,Region.binds .any e=true→eo.getD e.on false=true) →
   (∀j,j∈l→eo.getD j true=true)→Inv E vs ids l S a w→fZ C (sE vs (kz os.size eo)) S=some T→Alike T Sn→wpAny P .any os Q fuel eo a w:=by
 have hlen:=(AF bg).1;simp only[Array.length_toList]at hlen;simp only[Fo,List.all_eq_true,List.mem_range,Bool.and_eq_true]at Jl;have done:∀(eo:Array Bool) (l:List Nat) (S T:St) (a:Act) (w:World),eo.size=os.size→Region.ready .any os eo=[]→Inv E vs ids l S a w→fZ C (sE vs (kz os.size eo)) S=some T→Alike T Sn→Q .normal a w:=by
  intro eo l S T a w ei AJ hinv ah om;have ZQ:kz os.size eo=[]:=by
   cases hu:kz os.size eo with
   |nil=>rfl
   |cons i r =>
    exfalso;have E7:∀j,j∈kz os.size eo↔j<os.size∧eo.getD j true=false:=fun j=>by simp[kz]
    have least:∃i,i∈kz os.size eo∧∀j,j<i→j∉kz os.size eo:=by
     have:∀n,∀i,i≤n→i∈kz os.size eo→∃i,i∈kz os.size eo∧∀j,j<i→j∉kz os.size eo:=by
      intro n;induction n with
      |zero=>intro i hi hm;exact⟨i,hm,fun j hj=>by omega⟩
      |succ n ih =>
       intro i hi hm;by_cases h:∃j,j<i∧j∈kz os.size eo
       ·obtain⟨j,h1,h2⟩:=h
        exact ih j (by omega) h2
       ·exact⟨i,hm,fun j hj ZR=>h ⟨j,hj,ZR⟩⟩
     exact this i i (Nat.le_refl _) (by rw[hu];exact List.mem_cons_self)
    obtain⟨i,hi,ZS⟩:=least;obtain⟨br,tP⟩:=(E7 i).1 hi;have mW:i∈Region.ready .any os eo:=by
     rw[mem_ready];refine⟨tP,os[i],Array.getElem?_eq_getElem br,fun e he hb=>?_⟩;have h1:=(Jl i br).1;rw[Array.getElem?_eq_getElem br]at h1;simp only[List.all_eq_true,Array.mem_toList_iff]at h1;have h0:=h1 e he;rw[hb]at h0;have h2:e.on<i:=by simpa using h0
     have h3:=ZS e.on h2;rw[E7]at h3;have h4:e.on<eo.size:=by omega
     cases hl:eo.getD e.on false with
     |true=>rfl
     |false =>
      exfalso;refine h3 ⟨by omega,?_⟩
      simp[h4]at hl ⊢;exact hl
    rw[AJ]at mW;cases mW
  rw[ZQ]at ah;simp only[sE,List.filterMap_nil,fZ,Option.some.injEq]at ah;subst ah;obtain⟨⟨g,hR⟩,_⟩:=hinv;exact hQ g a w (hR.alike om)
 intro fuel;induction fuel with
 |zero =>
  intro eo l S T a w ei hf AI hl hinv ah om;have AJ:Region.ready .any os eo=[]:=by
   have tP:kz os.size eo=[]:=List.length_eq_zero_iff.1 hf;cases hr:Region.ready .any os eo with
   |nil=>rfl
   |cons i r =>
    exfalso;have:i∈Region.ready .any os eo:=by rw[hr];exact List.mem_cons_self
    rw[mem_ready]at this;obtain⟨h1,o,ho,_⟩:=this;have br:i<os.size:=(Array.getElem?_eq_some_iff.1 ho).1;have:i∈kz os.size eo:=by simp[kz,br];simpa using h1
    rw[tP]at this;cases this
  exact⟨AJ,done eo l S T a w ei AJ hinv ah om⟩
 |succ fuel ih =>
  intro eo l S T a w ei hf AI hl hinv ah om;refine⟨fun AJ=>done eo l S T a w ei AJ hinv ah om,fun i hi=>?_⟩;rw[mem_ready]at hi;obtain⟨tP,o,ho,vV⟩:=hi;have br:i<os.size:=(Array.getElem?_eq_some_iff.1 ho).1;have Jm:i<vs.length:=by omega
  have Ja:i∉l:=fun h=>by rw[hl i h]at tP;cases tP
  have Jo:=ZO (p:=fun j => !eo.getD j true) br (by rw[tP];rfl)
  have Jp:sE vs (kz os.size eo)=sE vs ((List.range i).filter fun j => !eo.getD j true)++vs[i]::sE vs ((List.range' (i+1) (os.size-(i+1))).filter fun j => !eo.getD j true):=by
   unfold kz;rw[Jo];simp only[sE,List.filterMap_append,List.filterMap_cons,List.getElem?_eq_getElem Jm]
  have ZT:∀y∈sE vs ((List.range i).filter fun j => !eo.getD j true),indep y vs[i]=true:=by
   intro y hy;obtain⟨j,hj,pq⟩:=List.mem_filterMap.1 hy;simp only[List.mem_filter,List.mem_range,Bool.not_eq_true']at hj;have h1:=(Jl i br).2 j hj.1;rw[pq,List.getElem?_eq_getElem Jm]at h1;simp only[Bool.or_eq_true]at h1;rcases h1 with h1|h1
   ·exact h1
   ·exfalso
    have:=Ph AI os.size i j o ho vV h1;have EU:j<eo.size:=by omega
    simp[EU]at this hj;rw[this]at hj;exact absurd hj.2 (by simp)
  rw[Jp]at ah;obtain⟨S1,T',h1,h2,h3⟩:=pull ZT ah;refine OX iq bg jY ho (List.getElem?_eq_getElem Jm) Ja hC hinv h1 fun a' w' Fe=>?_;have uX:∀j,(eo.setIfInBounds i true).getD j true=if j=i then true else eo.getD j true:=fun j=>by
   by_cases xl:j=i
   ·subst xl;simp[ei,br]
   ·rw[if_neg xl,getD_set_ne true (fun e=>xl e.symm)]
  have Pj:∀j,eo.getD j false=true→(eo.setIfInBounds i true).getD j false=true:=fun j h=>getD_set_true h;have sG:kz os.size (eo.setIfInBounds i true)=((List.range i).filter fun j => !eo.getD j true)++((List.range' (i+1) (os.size-(i+1))).filter fun j => !eo.getD j true):=by
   have h4:kz os.size (eo.setIfInBounds i true)=((List.range os.size).filter fun j => !eo.getD j true).filter fun j=>decide (j≠i):=by
    unfold kz;rw[List.filter_filter];apply List.filter_congr;intro j _;rw[uX];by_cases xl:j=i<;>simp[xl]
   rw[h4,Jo,List.filter_append,List.filter_cons,if_neg (by simp)]
   congr 1
   ·apply List.filter_eq_self.2
    intro j hj;simp only[List.mem_filter,List.mem_range]at hj;simp;omega
   ·apply List.filter_eq_self.2
    intro j hj;simp only[List.mem_filter,List.mem_range'_1]at hj;simp;omega
  refine ih (eo.setIfInBounds i true) (i::l) S1 T' a' w' (by simp[ei]) ?_ ?_ ?_ Fe ?_ (fun k=>Fg (Ff (h3 k)) (om k))
  ·have:(kz os.size eo).length=fuel+1:=hf
   unfold kz at this;rw[Jo]at this;rw[sG];simp at this ⊢;omega
  ·intro j o' xk hj e he hb
   rw[uX]at hj;by_cases xl:j=i
   ·subst xl
    rw[ho]at xk;cases xk;exact Pj _ (vV e he hb)
   ·rw[if_neg xl]at hj
    exact Pj _ (AI j o' xk hj e he hb)
  ·intro j hj
   rw[uX];rcases List.mem_cons.1 hj with h|h
   ·rw[if_pos h]
   ·split
    ·rfl
    ·exact hl j h
  ·rw[sG]
   simp only[sE,List.filterMap_append];exact h2
end
end Go.Vm
