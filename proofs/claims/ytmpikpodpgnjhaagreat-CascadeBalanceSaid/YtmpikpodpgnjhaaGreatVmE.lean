/- The value machine, 14: a region whose order is drawn. -/
import Derived.Test.YtmpikpodpgnjhaaGreatVmD
namespace Go.Vm
set_option linter.all false
noncomputable def bI.cY(C:bC)(S:St)(o:bI):Option Out :=
 match o.guard with
 |none=>o.op.cY C S
 |some (g,want)=>match look g S.env with
  |some (.bool b)=>bif b==want then o.op.cY C S else some (.val .undef)
  |some .undef=>some (.val .undef)
  |_=>none
theorem CK(C:bC)(S:St)(o:bI):o.run C S=(o.cY C S).map fun u=>u.app o.dst S:=by
 unfold bI.run bI.cY;cases o.guard with
 |none=>exact Pc C o.dst S o.op
 |some q =>
  obtain⟨g,want⟩:=q;simp only;cases look g S.env with
  |none=>rfl
  |some v =>
   cases v<;>try rfl
   simp only[np,Option.map_some,qC,Pc]
section
variable {S S':St} {C:bC}
theorem Jq{o:bI}(h:fS S S' o.rd):o.cY C S=o.cY C S':=by
 unfold bI.rd at h;unfold bI.cY;cases hg:o.guard with
 |none=>rw[hg]at h;exact Pk h.right
 |some q =>
  obtain⟨g,want⟩:=q;rw[hg]at h;have h1:look g S.env=look g S'.env:=h.left (.e g) (by simp)
  simp only[h1,Pk (C:=C) h.right]
theorem X4{o:bI}{u:Out}(h:o.cY C S=some u):AE u o.op.wr:=by
 have val:∀v K,AE (Out.val v) K:=fun v K=>⟨by simp[Out.val],by simp[Out.val],by simp[Out.val]⟩
 unfold bI.cY at h;split at h
 ·exact Pl h
 ·rename_i g want _
  split at h
  ·rename_i b _
   cases hb:b==want with
   |true=>simp only[hb,cond_true]at h;exact Pl h
   |false=>simp only[hb,cond_false]at h;cases h;exact val _ _
  ·cases h;exact val _ _
  ·cases h
theorem stays{o:bI}{u:Out}(h:o.cY C S=some u){T:St}{k:Key}(hk:k∉o.wr):same (u.app o.dst T) T k :=
 X3 (X4 h) hk
def indep(x y:bI):Bool:=x.wr.all (fun k => !(y.rd++y.wr).contains k)&&y.wr.all (fun k => !x.rd.contains k)
theorem X5{x y:bI}(h:indep x y=true):(∀k∈x.wr,k∉y.rd)∧(∀k∈x.wr,k∉y.wr)∧(∀k∈y.wr,k∉x.rd):=by
 simp only[indep,Bool.and_eq_true,List.all_eq_true,Bool.not_eq_true',List.contains_eq_mem,decide_eq_false_iff_not,List.mem_append,not_or]at h;exact⟨fun k hk=>(h.1 k hk).1,fun k hk=>(h.1 k hk).2,h.2⟩
theorem swap{x y:bI}(hi:indep x y=true){S1 S2:St}(h1:x.run C S=some S1)(h2:y.run C S1=some S2):∃T1 T2,y.run C S=some T1∧x.run C T1=some T2∧Alike S2 T2:=by
 obtain⟨i1,i2,i3⟩:=X5 hi;rw[CK]at h1 h2;cases hx:x.cY C S with
 |none=>rw[hx]at h1;cases h1
 |some u =>
  rw[hx]at h1;simp only[Option.map_some,Option.some.injEq]at h1;subst h1;cases hy:y.cY C (u.app x.dst S) with
  |none=>rw[hy]at h2;cases h2
  |some v =>
   rw[hy]at h2;simp only[Option.map_some,Option.some.injEq]at h2;subst h2;have u9:y.cY C S=some v:=by
    rw[←hy];exact Jq fun k hk=>Fj (stays hx fun hw=>i1 k hw hk)
   have pV:x.cY C (v.app y.dst S)=some u:=by
    rw[←hx];exact Jq fun k hk=>stays u9 fun hw=>i3 k hw hk
   refine⟨v.app y.dst S,u.app x.dst (v.app y.dst S),by rw[CK,u9];rfl,by rw[CK,pV];rfl,fun k=>?_⟩
   by_cases hk:k∈y.wr
   ·have Pm:k∉x.wr:=fun h=>i2 k h hk
    exact Fk (Jp (stays hx Pm)) (Fj (stays pV Pm))
   ·exact Fk (stays hy hk) (Jp (Fj (stays u9 hk)))
theorem X6(o:bI){S1:St}(h:Alike S S')(h1:o.run C S=some S1):∃S2,o.run C S'=some S2∧Alike S1 S2:=by
 rw[CK]at h1;cases hx:o.cY C S with
 |none=>rw[hx]at h1;cases h1
 |some u =>
  rw[hx]at h1;simp only[Option.map_some,Option.some.injEq]at h1;subst h1;refine⟨u.app o.dst S',?_,fun k=>Jp (h k)⟩;rw[CK,← Jq (C:=C) (o:=o) (S:=S) (S':=S') (fun k _=>h k),hx];rfl
theorem Js:∀(l:List bI) {S S' T:St},Alike S S'→gO C l S=some T→∃T',gO C l S'=some T'∧Alike T T'
 |[],S,S',T,h,h1=>by simp only[gO,Option.some.injEq]at h1;subst h1;exact⟨S',rfl,h⟩
 |o::l,S,S',T,h,h1=>by
  simp only[gO]at h1;split at h1
  ·rename_i S1 hs
   obtain⟨S2,h2,h3⟩:=X6 o h hs;obtain⟨T',h4,h5⟩:=Js l h3 h1;exact⟨T',by simp only[gO,h2];exact h4,h5⟩
  ·cases h1
theorem Jt:∀(l r:List bI) (S:St),gO C (l++r) S=(gO C l S).bind (gO C r)
 |[],r,S=>rfl
 |o::l,r,S=>by
  simp only[List.cons_append,gO];cases o.run C S with
  |none=>rfl
  |some S'=>exact Jt l r S'
theorem Pn:∀(l:List bI) {x:bI} {S T:St},(∀y∈l,indep y x=true)→gO C (l++[x]) S=some T→∃T',gO C (x::l) S=some T'∧Alike T T'
 |[],x,S,T,_,h=>⟨T,h,fun k=>O6 T k⟩
 |y::l,x,S,T,hi,h=>by
  simp only[List.cons_append,gO]at h;split at h
  ·rename_i S1 h1
   obtain⟨T1,h2,h3⟩:=Pn l (fun z hz=>hi z (List.mem_cons_of_mem _ hz)) h;simp only[gO]at h2;split at h2
   ·rename_i S2 h4
    obtain⟨U1,U2,h5,h6,h7⟩:=swap (hi y List.mem_cons_self) h1 h4;obtain⟨T2,h8,h9⟩:=Js l h7 h2;exact⟨T2,by simp only[gO,h5,h6];exact h8,fun k=>Fk (h3 k) (h9 k)⟩
   ·cases h2
  ·cases h
theorem pull{l r:List bI}{x:bI}{T:St}(hi:∀y∈l,indep y x=true)(h:gO C (l++x::r) S=some T):∃S1 T',x.run C S=some S1∧gO C (l++r) S1=some T'∧Alike T T':=by
 rw[show l++x::r=(l++[x])++r from by simp,Jt]at h
 cases h1:gO C (l++[x]) S with
 |none=>rw[h1]at h;cases h
 |some U =>
  rw[h1]at h;obtain⟨U',h2,h3⟩:=Pn l hi h1;obtain⟨T',h4,h5⟩:=Js r h3 h;simp only[gO]at h2;split at h2
  ·rename_i S1 h6
   refine⟨S1,T',h6,?_,h5⟩;rw[Jt,h2];exact h4
  ·cases h2
end
section
variable {P:Program} {E:Entry} {g g':Gh} {S S':St} {a:Act} {w w':World} {C:bC}
theorem R.alike(hR:R E g S a w)(h:Alike S S'):R E g S' a w:=by
 have hg:S.az=S'.az:=h .g;have ht:∀f,look f S.bm=look f S'.bm:=fun f=>h (.t f);have lU:∀v x,bj (S.cx g w) v x→bj (S'.cx g w) v x:=fun v x hx=>by
  have le:Le (S.cx g w) (S'.cx g w):=⟨Nat.le_refl _,fun _ _ _ _ h=>h,fun _ _=>Nat.le_refl _,by simp[St.cx,hg],fun _ _=>rfl⟩
  refine bj.mono le hx fun d=>.inl ⟨rfl,rfl,fun k hk=>⟨k,(ht d).trans (show look d S'.bm=some k from hk),Nat.le_refl _,fun _=>⟨rfl,fun _ _=>⟨rfl,fun c _ h=>⟨c,h,rfl⟩⟩⟩⟩⟩
 refine⟨fun s v hs=>?_,fun id cs ho=>?_,fun f k b hf hb=>hR.bm f k b ((ht f).trans hf) hb,hg ▸ hR.az,hR.defers,hR.jy,hg ▸ hR.same⟩
 ·obtain⟨x,h1,h2⟩:=hR.env s v ((h (.e s)).trans hs)
  exact⟨x,h1,lU v x h2⟩
 ·rcases hR.bb id cs ((h (.o id)).trans ho) with h0 | ⟨h1,h2,h3,c,e,h4,fH,h5⟩
  ·exact .inl h0
  refine .inr ⟨h1,h2,h3,c,e,h4,fH,fun j v hj=>?_⟩;obtain⟨h6,y,h7,h8⟩:=h5 j v hj;exact⟨h6,y,h7,lU v y h8⟩
def reach(os:Array Oper):Nat→Nat→Nat→Bool
 |0,_,_=>false
 |n+1,i,y=>match os[i]? with
  |some o=>o.after.toList.any fun e=>Region.binds .any e&&(e.on==y || reach os n e.on y)
  |none=>false
def Ft(os:Array Oper)(vs:List bI):Bool :=
 (List.range os.size).all fun i=>(match os[i]? with|some o=>o.after.toList.all fun e => !Region.binds .any e || Nat.blt e.on i|none=>true) &&
  (List.range i).all fun y=>(match vs[y]?,vs[i]? with|some u,some v=>indep u v || reach os os.size i y|_,_=>false)
theorem Po{os:Array Oper}{eO:Array Bool}(AF:∀(j:Nat) o,os[j]?=some o→eO.getD j true=true→∀e∈o.after,Region.binds .any e=true→eO.getD e.on false=true) :
  ∀(n i y:Nat) (o:Oper),os[i]?=some o→(∀e∈o.after,Region.binds .any e=true→eO.getD e.on false=true)→reach os n i y=true→eO.getD y false=true
 |0,_,_,_,_,_,h=>by simp[reach]at h
 |n+1,i,y,o,ho,vu,h=>by
  simp only[reach,ho,List.any_eq_true,Bool.and_eq_true,Bool.or_eq_true,beq_iff_eq]at h;obtain⟨e,he,hb,h⟩:=h;have hm:e∈o.after:=by simpa using he
  rcases h with h|h
  ·rw[←h];exact vu e hm hb
  ·cases wY:os[e.on]? with
   |none=>cases n<;>simp[reach,wY]at h
   |some o' =>
    refine Po AF n e.on y o' wY (AF e.on o' wY ?_) h;have:=vu e hm hb;rcases Nat.lt_or_ge e.on eO.size with h1|h1
    ·simpa [h1] using this
    ·simp[Array.getElem?_eq_none h1]at this
def kP(n:Nat)(eO:Array Bool):List Nat:=(List.range n).filter fun j => !eO.getD j true
theorem X7{n:Nat}{p:Nat→Bool}{i:Nat}(hi:i<n)(hp:p i=true):(List.range n).filter p=(List.range i).filter p++i::((List.range' (i+1) (n-(i+1))).filter p):=by
 have h1:List.range n=List.range i++i::List.range' (i+1) (n-(i+1)):=by
  rw[List.range_eq_range',List.range_eq_range'];have:List.range' 0 n=List.range' 0 i++List.range' i (n-i):=by
   have:=List.range'_append (s:=0) (m:=i) (n:=n-i) (step:=1);simp only[Nat.one_mul,Nat.zero_add]at this;rw[this];congr 1;omega
  rw[this,show n-i=(n-(i+1))+1 from by omega,List.range'_succ]
 rw[h1,List.filter_append,List.filter_cons,if_pos hp]
def se(vs:List bI)(l:List Nat):List bI:=l.filterMap (vs[·]?)
theorem X8{ps:List (Nat×Nat)}(iR:∀f k,look f ps=some k→pU P k f){os:Array Oper}{vs:List bI}{ids:List Nat}{Q:Exit→Act→World→Prop}(bz:vr P ps E.nt os os.toList vs=true)(kq:CH vs ids=true)(Ju:Ft os vs=true)(hC:oN P C){Sn:St}
  (hQ:∀g a w,R E g Sn a w→Q .normal a w):∀(fuel:Nat) (eO:Array Bool) (l:List Nat) (S T:St) (a:Act) (w:World),eO.size=os.size→(kP os.size eO).length=fuel →
   (∀(j:Nat) o,os[j]?=some o→eO.getD j true=true→∀e∈o.after,Region.binds .any e=true→eO.getD e.on false=true) →
   (∀j,j∈l→eO.getD j true=true)→Inv E vs ids l S a w→gO C (se vs (kP os.size eO)) S=some T→Alike T Sn→wpAny P .any os Q fuel eO a w:=by
 have hlen:=(AB bz).1;simp only[Array.length_toList]at hlen;simp only[Ft,List.all_eq_true,List.mem_range,Bool.and_eq_true]at Ju;have done:∀(eO:Array Bool) (l:List Nat) (S T:St) (a:Act) (w:World),eO.size=os.size→Region.ready .any os eO=[]→Inv E vs ids l S a w→gO C (se vs (kP os.size eO)) S=some T→Alike T Sn→Q .normal a w:=by
  intro eO l S T a w eH AG hinv aj pW;have X9:kP os.size eO=[]:=by
   cases hu:kP os.size eO with
   |nil=>rfl
   |cons i r =>
    exfalso;have Fb:∀j,j∈kP os.size eO↔j<os.size∧eO.getD j true=false:=fun j=>by simp[kP]
    have least:∃i,i∈kP os.size eO∧∀j,j<i→j∉kP os.size eO:=by
     have:∀n,∀i,i≤n→i∈kP os.size eO→∃i,i∈kP os.size eO∧∀j,j<i→j∉kP os.size eO:=by
      intro n;induction n with
      |zero=>intro i hi hm;exact⟨i,hm,fun j hj=>by omega⟩
      |succ n ih =>
       intro i hi hm;by_cases h:∃j,j<i∧j∈kP os.size eO
       ·obtain⟨j,h1,h2⟩:=h
        exact ih j (by omega) h2
       ·exact⟨i,hm,fun j hj Ya=>h ⟨j,hj,Ya⟩⟩
     exact this i i (Nat.le_refl _) (by rw[hu];exact List.mem_cons_self)
    obtain⟨i,hi,Yb⟩:=least;obtain⟨bG,tu⟩:=(Fb i).1 hi;have lW:i∈Region.ready .any os eO:=by
     rw[mem_ready];refine⟨tu,os[i],Array.getElem?_eq_getElem bG,fun e he hb=>?_⟩;have h1:=(Ju i bG).1;rw[Array.getElem?_eq_getElem bG]at h1;simp only[List.all_eq_true,Array.mem_toList_iff]at h1;have h0:=h1 e he;rw[hb]at h0;have h2:e.on<i:=by simpa using h0
     have h3:=Yb e.on h2;rw[Fb]at h3;have h4:e.on<eO.size:=by omega
     cases hl:eO.getD e.on false with
     |true=>rfl
     |false =>
      exfalso;refine h3 ⟨by omega,?_⟩
      simp[h4]at hl ⊢;exact hl
    rw[AG]at lW;cases lW
  rw[X9]at aj;simp only[se,List.filterMap_nil,gO,Option.some.injEq]at aj;subst aj;obtain⟨⟨g,hR⟩,_⟩:=hinv;exact hQ g a w (hR.alike pW)
 intro fuel;induction fuel with
 |zero =>
  intro eO l S T a w eH hf AF hl hinv aj pW;have AG:Region.ready .any os eO=[]:=by
   have tu:kP os.size eO=[]:=List.length_eq_zero_iff.1 hf;cases hr:Region.ready .any os eO with
   |nil=>rfl
   |cons i r =>
    exfalso;have:i∈Region.ready .any os eO:=by rw[hr];exact List.mem_cons_self
    rw[mem_ready]at this;obtain⟨h1,o,ho,_⟩:=this;have bG:i<os.size:=(Array.getElem?_eq_some_iff.1 ho).1;have:i∈kP os.size eO:=by simp[kP,bG];simpa using h1
    rw[tu]at this;cases this
  exact⟨AG,done eO l S T a w eH AG hinv aj pW⟩
 |succ fuel ih =>
  intro eO l S T a w eH hf AF hl hinv aj pW;refine⟨fun AG=>done eO l S T a w eH AG hinv aj pW,fun i hi=>?_⟩;rw[mem_ready]at hi;obtain⟨tu,o,ho,vu⟩:=hi;have bG:i<os.size:=(Array.getElem?_eq_some_iff.1 ho).1;have Jv:i<vs.length:=by omega
  have Ji:i∉l:=fun h=>by rw[hl i h]at tu;cases tu
  have Jw:=X7 (p:=fun j => !eO.getD j true) bG (by rw[tu];rfl)
  have Jx:se vs (kP os.size eO)=se vs ((List.range i).filter fun j => !eO.getD j true)++vs[i]::se vs ((List.range' (i+1) (os.size-(i+1))).filter fun j => !eO.getD j true):=by
   unfold kP;rw[Jw];simp only[se,List.filterMap_append,List.filterMap_cons,List.getElem?_eq_getElem Jv]
  have Yc:∀y∈se vs ((List.range i).filter fun j => !eO.getD j true),indep y vs[i]=true:=by
   intro y hy;obtain⟨j,hj,pO⟩:=List.mem_filterMap.1 hy;simp only[List.mem_filter,List.mem_range,Bool.not_eq_true']at hj;have h1:=(Ju i bG).2 j hj.1;rw[pO,List.getElem?_eq_getElem Jv]at h1;simp only[Bool.or_eq_true]at h1;rcases h1 with h1|h1
   ·exact h1
   ·exfalso
    have:=Po AF os.size i j o ho vu h1;have EW:j<eO.size:=by omega
    simp[EW]at this hj;rw[this]at hj;exact absurd hj.2 (by simp)
  rw[Jx]at aj;obtain⟨S1,T',h1,h2,h3⟩:=pull Yc aj;refine O3 iR bz kq ho (List.getElem?_eq_getElem Jv) Ji hC hinv h1 fun a' w' Fi=>?_;have uD:∀j,(eO.setIfInBounds i true).getD j true=if j=i then true else eO.getD j true:=fun j=>by
   by_cases wZ:j=i
   ·subst wZ;simp[eH,bG]
   ·rw[if_neg wZ,getD_set_ne true (fun e=>wZ e.symm)]
  have Pp:∀j,eO.getD j false=true→(eO.setIfInBounds i true).getD j false=true:=fun j h=>getD_set_true h;have sf:kP os.size (eO.setIfInBounds i true)=((List.range i).filter fun j => !eO.getD j true)++((List.range' (i+1) (os.size-(i+1))).filter fun j => !eO.getD j true):=by
   have h4:kP os.size (eO.setIfInBounds i true)=((List.range os.size).filter fun j => !eO.getD j true).filter fun j=>decide (j≠i):=by
    unfold kP;rw[List.filter_filter];apply List.filter_congr;intro j _;rw[uD];by_cases wZ:j=i<;>simp[wZ]
   rw[h4,Jw,List.filter_append,List.filter_cons,if_neg (by simp)]
   congr 1
   ·apply List.filter_eq_self.2
    intro j hj;simp only[List.mem_filter,List.mem_range]at hj;simp;omega
   ·apply List.filter_eq_self.2
    intro j hj;simp only[List.mem_filter,List.mem_range'_1]at hj;simp;omega
  refine ih (eO.setIfInBounds i true) (i::l) S1 T' a' w' (by simp[eH]) ?_ ?_ ?_ Fi ?_ (fun k=>Fk (Fj (h3 k)) (pW k))
  ·have:(kP os.size eO).length=fuel+1:=hf
   unfold kP at this;rw[Jw]at this;rw[sf];simp at this ⊢;omega
  ·intro j o' wY hj e he hb
   rw[uD]at hj;by_cases wZ:j=i
   ·subst wZ
    rw[ho]at wY;cases wY;exact Pp _ (vu e he hb)
   ·rw[if_neg wZ]at hj
    exact Pp _ (AF j o' wY hj e he hb)
  ·intro j hj
   rw[uD];rcases List.mem_cons.1 hj with h|h
   ·rw[if_pos h]
   ·split
    ·rfl
    ·exact hl j h
  ·rw[sf]
   simp only[se,List.filterMap_append];exact h2
end
end Go.Vm
