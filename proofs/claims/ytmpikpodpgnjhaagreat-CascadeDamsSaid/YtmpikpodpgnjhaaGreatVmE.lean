/- The value machine, 14: a region whose order is drawn. -/
import Derived.Test.YtmpikpodpgnjhaaGreatVmD
namespace Go.Vm
set_option linter.all false
noncomputable def bI.cY(C:bC)(S:St)(o:bI):Option Out :=
 match o.guard with
 |none=>o.op.cY C S
 |some (g,want)=>match look g S.env with
  |some (.bool b)=>bif b==want then o.op.cY C S else some (.val .undef)
  |some .undef=>some (.val .undef)
  |_=>none
theorem CG(C:bC)(S:St)(o:bI):o.run C S=(o.cY C S).map fun u=>u.app o.dst S:=by
 unfold bI.run bI.cY;cases o.guard with
 |none=>exact Pd C o.dst S o.op
 |some q =>
  obtain⟨g,want⟩:=q;simp only;cases look g S.env with
  |none=>rfl
  |some v =>
   cases v<;>try rfl
   simp only[np,Option.map_some,qC,Pd]
section
variable {S S':St} {C:bC}
theorem Jp{o:bI}(h:fS S S' o.rd):o.cY C S=o.cY C S':=by
 unfold bI.rd at h;unfold bI.cY;cases hg:o.guard with
 |none=>rw[hg]at h;exact Pl h.right
 |some q =>
  obtain⟨g,want⟩:=q;rw[hg]at h;have h1:look g S.env=look g S'.env:=h.left (.e g) (by simp)
  simp only[h1,Pl (C:=C) h.right]
theorem X1{o:bI}{u:Out}(h:o.cY C S=some u):AD u o.op.wr:=by
 have val:∀v K,AD (Out.val v) K:=fun v K=>⟨by simp[Out.val],by simp[Out.val],by simp[Out.val]⟩
 unfold bI.cY at h;split at h
 ·exact Pm h
 ·rename_i g want _
  split at h
  ·rename_i b _
   cases hb:b==want with
   |true=>simp only[hb,cond_true]at h;exact Pm h
   |false=>simp only[hb,cond_false]at h;cases h;exact val _ _
  ·cases h;exact val _ _
  ·cases h
theorem stays{o:bI}{u:Out}(h:o.cY C S=some u){T:St}{k:Key}(hk:k∉o.wr):same (u.app o.dst T) T k :=
 X0 (X1 h) hk
def indep(x y:bI):Bool:=x.wr.all (fun k => !(y.rd++y.wr).contains k)&&y.wr.all (fun k => !x.rd.contains k)
theorem X2{x y:bI}(h:indep x y=true):(∀k∈x.wr,k∉y.rd)∧(∀k∈x.wr,k∉y.wr)∧(∀k∈y.wr,k∉x.rd):=by
 simp only[indep,Bool.and_eq_true,List.all_eq_true,Bool.not_eq_true',List.contains_eq_mem,decide_eq_false_iff_not,List.mem_append,not_or]at h;exact⟨fun k hk=>(h.1 k hk).1,fun k hk=>(h.1 k hk).2,h.2⟩
theorem swap{x y:bI}(hi:indep x y=true){S1 S2:St}(h1:x.run C S=some S1)(h2:y.run C S1=some S2):∃T1 T2,y.run C S=some T1∧x.run C T1=some T2∧Alike S2 T2:=by
 obtain⟨i1,i2,i3⟩:=X2 hi;rw[CG]at h1 h2;cases hx:x.cY C S with
 |none=>rw[hx]at h1;cases h1
 |some u =>
  rw[hx]at h1;simp only[Option.map_some,Option.some.injEq]at h1;subst h1;cases hy:y.cY C (u.app x.dst S) with
  |none=>rw[hy]at h2;cases h2
  |some v =>
   rw[hy]at h2;simp only[Option.map_some,Option.some.injEq]at h2;subst h2;have vb:y.cY C S=some v:=by
    rw[←hy];exact Jp fun k hk=>Fh (stays hx fun hw=>i1 k hw hk)
   have pV:x.cY C (v.app y.dst S)=some u:=by
    rw[←hx];exact Jp fun k hk=>stays vb fun hw=>i3 k hw hk
   refine⟨v.app y.dst S,u.app x.dst (v.app y.dst S),by rw[CG,vb];rfl,by rw[CG,pV];rfl,fun k=>?_⟩
   by_cases hk:k∈y.wr
   ·have Pn:k∉x.wr:=fun h=>i2 k h hk
    exact Fi (Jo (stays hx Pn)) (Fh (stays pV Pn))
   ·exact Fi (stays hy hk) (Jo (Fh (stays vb hk)))
theorem X3(o:bI){S1:St}(h:Alike S S')(h1:o.run C S=some S1):∃S2,o.run C S'=some S2∧Alike S1 S2:=by
 rw[CG]at h1;cases hx:o.cY C S with
 |none=>rw[hx]at h1;cases h1
 |some u =>
  rw[hx]at h1;simp only[Option.map_some,Option.some.injEq]at h1;subst h1;refine⟨u.app o.dst S',?_,fun k=>Jo (h k)⟩;rw[CG,← Jp (C:=C) (o:=o) (S:=S) (S':=S') (fun k _=>h k),hx];rfl
theorem Jr:∀(l:List bI) {S S' T:St},Alike S S'→gQ C l S=some T→∃T',gQ C l S'=some T'∧Alike T T'
 |[],S,S',T,h,h1=>by simp only[gQ,Option.some.injEq]at h1;subst h1;exact⟨S',rfl,h⟩
 |o::l,S,S',T,h,h1=>by
  simp only[gQ]at h1;split at h1
  ·rename_i S1 hs
   obtain⟨S2,h2,h3⟩:=X3 o h hs;obtain⟨T',h4,h5⟩:=Jr l h3 h1;exact⟨T',by simp only[gQ,h2];exact h4,h5⟩
  ·cases h1
theorem Js:∀(l r:List bI) (S:St),gQ C (l++r) S=(gQ C l S).bind (gQ C r)
 |[],r,S=>rfl
 |o::l,r,S=>by
  simp only[List.cons_append,gQ];cases o.run C S with
  |none=>rfl
  |some S'=>exact Js l r S'
theorem Po:∀(l:List bI) {x:bI} {S T:St},(∀y∈l,indep y x=true)→gQ C (l++[x]) S=some T→∃T',gQ C (x::l) S=some T'∧Alike T T'
 |[],x,S,T,_,h=>⟨T,h,fun k=>O7 T k⟩
 |y::l,x,S,T,hi,h=>by
  simp only[List.cons_append,gQ]at h;split at h
  ·rename_i S1 h1
   obtain⟨T1,h2,h3⟩:=Po l (fun z hz=>hi z (List.mem_cons_of_mem _ hz)) h;simp only[gQ]at h2;split at h2
   ·rename_i S2 h4
    obtain⟨U1,U2,h5,h6,h7⟩:=swap (hi y List.mem_cons_self) h1 h4;obtain⟨T2,h8,h9⟩:=Jr l h7 h2;exact⟨T2,by simp only[gQ,h5,h6];exact h8,fun k=>Fi (h3 k) (h9 k)⟩
   ·cases h2
  ·cases h
theorem pull{l r:List bI}{x:bI}{T:St}(hi:∀y∈l,indep y x=true)(h:gQ C (l++x::r) S=some T):∃S1 T',x.run C S=some S1∧gQ C (l++r) S1=some T'∧Alike T T':=by
 rw[show l++x::r=(l++[x])++r from by simp,Js]at h
 cases h1:gQ C (l++[x]) S with
 |none=>rw[h1]at h;cases h
 |some U =>
  rw[h1]at h;obtain⟨U',h2,h3⟩:=Po l hi h1;obtain⟨T',h4,h5⟩:=Jr r h3 h;simp only[gQ]at h2;split at h2
  ·rename_i S1 h6
   refine⟨S1,T',h6,?_,h5⟩;rw[Js,h2];exact h4
  ·cases h2
end
section
variable {P:Program} {E:Entry} {g g':Gh} {S S':St} {a:Act} {w w':World} {C:bC}
theorem R.alike(hR:R E g S a w)(h:Alike S S'):R E g S' a w:=by
 have hg:S.az=S'.az:=h .g;have ht:∀f,look f S.bm=look f S'.bm:=fun f=>h (.t f);have lX:∀v x,bj (S.cx g w) v x→bj (S'.cx g w) v x:=fun v x hx=>by
  have le:Le (S.cx g w) (S'.cx g w):=⟨Nat.le_refl _,fun _ _ _ _ h=>h,fun _ _=>Nat.le_refl _,by simp[St.cx,hg],fun _ _=>rfl⟩
  refine bj.mono le hx fun d=>.inl ⟨rfl,rfl,fun k hk=>⟨k,(ht d).trans (show look d S'.bm=some k from hk),Nat.le_refl _,fun _=>⟨rfl,fun _ _=>⟨rfl,fun c _ h=>⟨c,h,rfl⟩⟩⟩⟩⟩
 refine⟨fun s v hs=>?_,fun id cs ho=>?_,fun f k b hf hb=>hR.bm f k b ((ht f).trans hf) hb,hg ▸ hR.az,hR.defers,hR.jC,hg ▸ hR.same⟩
 ·obtain⟨x,h1,h2⟩:=hR.env s v ((h (.e s)).trans hs)
  exact⟨x,h1,lX v x h2⟩
 ·rcases hR.bb id cs ((h (.o id)).trans ho) with h0 | ⟨h1,h2,h3,c,e,h4,fH,h5⟩
  ·exact .inl h0
  refine .inr ⟨h1,h2,h3,c,e,h4,fH,fun j v hj=>?_⟩;obtain⟨h6,y,h7,h8⟩:=h5 j v hj;exact⟨h6,y,h7,lX v y h8⟩
def reach(os:Array Oper):Nat→Nat→Nat→Bool
 |0,_,_=>false
 |n+1,i,y=>match os[i]? with
  |some o=>o.after.toList.any fun e=>Region.binds .any e&&(e.on==y || reach os n e.on y)
  |none=>false
def Fq(os:Array Oper)(vs:List bI):Bool :=
 (List.range os.size).all fun i=>(match os[i]? with|some o=>o.after.toList.all fun e => !Region.binds .any e || Nat.blt e.on i|none=>true) &&
  (List.range i).all fun y=>(match vs[y]?,vs[i]? with|some u,some v=>indep u v || reach os os.size i y|_,_=>false)
theorem Pp{os:Array Oper}{eO:Array Bool}(AE:∀(j:Nat) o,os[j]?=some o→eO.getD j true=true→∀e∈o.after,Region.binds .any e=true→eO.getD e.on false=true) :
  ∀(n i y:Nat) (o:Oper),os[i]?=some o→(∀e∈o.after,Region.binds .any e=true→eO.getD e.on false=true)→reach os n i y=true→eO.getD y false=true
 |0,_,_,_,_,_,h=>by simp[reach]at h
 |n+1,i,y,o,ho,vv,h=>by
  simp only[reach,ho,List.any_eq_true,Bool.and_eq_true,Bool.or_eq_true,beq_iff_eq]at h;obtain⟨e,he,hb,h⟩:=h;have hm:e∈o.after:=by simpa using he
  rcases h with h|h
  ·rw[←h];exact vv e hm hb
  ·cases wZ:os[e.on]? with
   |none=>cases n<;>simp[reach,wZ]at h
   |some o' =>
    refine Pp AE n e.on y o' wZ (AE e.on o' wZ ?_) h;have:=vv e hm hb;rcases Nat.lt_or_ge e.on eO.size with h1|h1
    ·simpa [h1] using this
    ·simp[Array.getElem?_eq_none h1]at this
def kQ(n:Nat)(eO:Array Bool):List Nat:=(List.range n).filter fun j => !eO.getD j true
theorem X4{n:Nat}{p:Nat→Bool}{i:Nat}(hi:i<n)(hp:p i=true):(List.range n).filter p=(List.range i).filter p++i::((List.range' (i+1) (n-(i+1))).filter p):=by
 have h1:List.range n=List.range i++i::List.range' (i+1) (n-(i+1)):=by
  rw[List.range_eq_range',List.range_eq_range'];have:List.range' 0 n=List.range' 0 i++List.range' i (n-i):=by
   have:=List.range'_append (s:=0) (m:=i) (n:=n-i) (step:=1);simp only[Nat.one_mul,Nat.zero_add]at this;rw[this];congr 1;omega
  rw[this,show n-i=(n-(i+1))+1 from by omega,List.range'_succ]
 rw[h1,List.filter_append,List.filter_cons,if_pos hp]
def si(vs:List bI)(l:List Nat):List bI:=l.filterMap (vs[·]?)
theorem X5{ps:List (Nat×Nat)}(iU:∀f k,look f ps=some k→pU P k f){os:Array Oper}{vs:List bI}{ids:List Nat}{Q:Exit→Act→World→Prop}(bz:vt P ps E.nt os os.toList vs=true)(kr:CD vs ids=true)(Jt:Fq os vs=true)(hC:oR P C){Sn:St}
  (hQ:∀g a w,R E g Sn a w→Q .normal a w):∀(fuel:Nat) (eO:Array Bool) (l:List Nat) (S T:St) (a:Act) (w:World),eO.size=os.size→(kQ os.size eO).length=fuel →
   (∀(j:Nat) o,os[j]?=some o→eO.getD j true=true→∀e∈o.after,Region.binds .any e=true→eO.getD e.on false=true) →
   (∀j,j∈l→eO.getD j true=true)→Inv E vs ids l S a w→gQ C (si vs (kQ os.size eO)) S=some T→Alike T Sn→wpAny P .any os Q fuel eO a w:=by
 have hlen:=(AA bz).1;simp only[Array.length_toList]at hlen;simp only[Fq,List.all_eq_true,List.mem_range,Bool.and_eq_true]at Jt;have done:∀(eO:Array Bool) (l:List Nat) (S T:St) (a:Act) (w:World),eO.size=os.size→Region.ready .any os eO=[]→Inv E vs ids l S a w→gQ C (si vs (kQ os.size eO)) S=some T→Alike T Sn→Q .normal a w:=by
  intro eO l S T a w eI AF hinv aj pW;have X6:kQ os.size eO=[]:=by
   cases hu:kQ os.size eO with
   |nil=>rfl
   |cons i r =>
    exfalso;have E9:∀j,j∈kQ os.size eO↔j<os.size∧eO.getD j true=false:=fun j=>by simp[kQ]
    have least:∃i,i∈kQ os.size eO∧∀j,j<i→j∉kQ os.size eO:=by
     have:∀n,∀i,i≤n→i∈kQ os.size eO→∃i,i∈kQ os.size eO∧∀j,j<i→j∉kQ os.size eO:=by
      intro n;induction n with
      |zero=>intro i hi hm;exact⟨i,hm,fun j hj=>by omega⟩
      |succ n ih =>
       intro i hi hm;by_cases h:∃j,j<i∧j∈kQ os.size eO
       ·obtain⟨j,h1,h2⟩:=h
        exact ih j (by omega) h2
       ·exact⟨i,hm,fun j hj X7=>h ⟨j,hj,X7⟩⟩
     exact this i i (Nat.le_refl _) (by rw[hu];exact List.mem_cons_self)
    obtain⟨i,hi,X8⟩:=least;obtain⟨bG,tv⟩:=(E9 i).1 hi;have lZ:i∈Region.ready .any os eO:=by
     rw[mem_ready];refine⟨tv,os[i],Array.getElem?_eq_getElem bG,fun e he hb=>?_⟩;have h1:=(Jt i bG).1;rw[Array.getElem?_eq_getElem bG]at h1;simp only[List.all_eq_true,Array.mem_toList_iff]at h1;have h0:=h1 e he;rw[hb]at h0;have h2:e.on<i:=by simpa using h0
     have h3:=X8 e.on h2;rw[E9]at h3;have h4:e.on<eO.size:=by omega
     cases hl:eO.getD e.on false with
     |true=>rfl
     |false =>
      exfalso;refine h3 ⟨by omega,?_⟩
      simp[h4]at hl ⊢;exact hl
    rw[AF]at lZ;cases lZ
  rw[X6]at aj;simp only[si,List.filterMap_nil,gQ,Option.some.injEq]at aj;subst aj;obtain⟨⟨g,hR⟩,_⟩:=hinv;exact hQ g a w (hR.alike pW)
 intro fuel;induction fuel with
 |zero =>
  intro eO l S T a w eI hf AE hl hinv aj pW;have AF:Region.ready .any os eO=[]:=by
   have tv:kQ os.size eO=[]:=List.length_eq_zero_iff.1 hf;cases hr:Region.ready .any os eO with
   |nil=>rfl
   |cons i r =>
    exfalso;have:i∈Region.ready .any os eO:=by rw[hr];exact List.mem_cons_self
    rw[mem_ready]at this;obtain⟨h1,o,ho,_⟩:=this;have bG:i<os.size:=(Array.getElem?_eq_some_iff.1 ho).1;have:i∈kQ os.size eO:=by simp[kQ,bG];simpa using h1
    rw[tv]at this;cases this
  exact⟨AF,done eO l S T a w eI AF hinv aj pW⟩
 |succ fuel ih =>
  intro eO l S T a w eI hf AE hl hinv aj pW;refine⟨fun AF=>done eO l S T a w eI AF hinv aj pW,fun i hi=>?_⟩;rw[mem_ready]at hi;obtain⟨tv,o,ho,vv⟩:=hi;have bG:i<os.size:=(Array.getElem?_eq_some_iff.1 ho).1;have Ju:i<vs.length:=by omega
  have Jh:i∉l:=fun h=>by rw[hl i h]at tv;cases tv
  have Jv:=X4 (p:=fun j => !eO.getD j true) bG (by rw[tv];rfl)
  have Jw:si vs (kQ os.size eO)=si vs ((List.range i).filter fun j => !eO.getD j true)++vs[i]::si vs ((List.range' (i+1) (os.size-(i+1))).filter fun j => !eO.getD j true):=by
   unfold kQ;rw[Jv];simp only[si,List.filterMap_append,List.filterMap_cons,List.getElem?_eq_getElem Ju]
  have X9:∀y∈si vs ((List.range i).filter fun j => !eO.getD j true),indep y vs[i]=true:=by
   intro y hy;obtain⟨j,hj,pO⟩:=List.mem_filterMap.1 hy;simp only[List.mem_filter,List.mem_range,Bool.not_eq_true']at hj;have h1:=(Jt i bG).2 j hj.1;rw[pO,List.getElem?_eq_getElem Ju]at h1;simp only[Bool.or_eq_true]at h1;rcases h1 with h1|h1
   ·exact h1
   ·exfalso
    have:=Pp AE os.size i j o ho vv h1;have ET:j<eO.size:=by omega
    simp[ET]at this hj;rw[this]at hj;exact absurd hj.2 (by simp)
  rw[Jw]at aj;obtain⟨S1,T',h1,h2,h3⟩:=pull X9 aj;refine O4 iU bz kr ho (List.getElem?_eq_getElem Ju) Jh hC hinv h1 fun a' w' Fg=>?_;have uF:∀j,(eO.setIfInBounds i true).getD j true=if j=i then true else eO.getD j true:=fun j=>by
   by_cases w5:j=i
   ·subst w5;simp[eI,bG]
   ·rw[if_neg w5,getD_set_ne true (fun e=>w5 e.symm)]
  have Pq:∀j,eO.getD j false=true→(eO.setIfInBounds i true).getD j false=true:=fun j h=>getD_set_true h;have sj:kQ os.size (eO.setIfInBounds i true)=((List.range i).filter fun j => !eO.getD j true)++((List.range' (i+1) (os.size-(i+1))).filter fun j => !eO.getD j true):=by
   have h4:kQ os.size (eO.setIfInBounds i true)=((List.range os.size).filter fun j => !eO.getD j true).filter fun j=>decide (j≠i):=by
    unfold kQ;rw[List.filter_filter];apply List.filter_congr;intro j _;rw[uF];by_cases w5:j=i<;>simp[w5]
   rw[h4,Jv,List.filter_append,List.filter_cons,if_neg (by simp)]
   congr 1
   ·apply List.filter_eq_self.2
    intro j hj;simp only[List.mem_filter,List.mem_range]at hj;simp;omega
   ·apply List.filter_eq_self.2
    intro j hj;simp only[List.mem_filter,List.mem_range'_1]at hj;simp;omega
  refine ih (eO.setIfInBounds i true) (i::l) S1 T' a' w' (by simp[eI]) ?_ ?_ ?_ Fg ?_ (fun k=>Fi (Fh (h3 k)) (pW k))
  ·have:(kQ os.size eO).length=fuel+1:=hf
   unfold kQ at this;rw[Jv]at this;rw[sj];simp at this ⊢;omega
  ·intro j o' wZ hj e he hb
   rw[uF]at hj;by_cases w5:j=i
   ·subst w5
    rw[ho]at wZ;cases wZ;exact Pq _ (vv e he hb)
   ·rw[if_neg w5]at hj
    exact Pq _ (AE j o' wZ hj e he hb)
  ·intro j hj
   rw[uF];rcases List.mem_cons.1 hj with h|h
   ·rw[if_pos h]
   ·split
    ·rfl
    ·exact hl j h
  ·rw[sj]
   simp only[si,List.filterMap_append];exact h2
end
end Go.Vm
