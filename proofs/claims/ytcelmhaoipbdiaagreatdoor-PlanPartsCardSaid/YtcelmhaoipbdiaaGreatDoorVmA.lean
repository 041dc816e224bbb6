/- The value machine, 10: what an operation may be, and that each does in the model what it does here. -/
import Derived.Test.YtcelmhaoipbdiaaGreatDoorVmU
import Derived.Test.YtcelmhaoipbdiaaGreatDoorVmS
namespace Go.Vm
set_option linter.all false
def VO.names:VO→List Nat
 |.obj id _ | .box id _ | .s6 id _ _=>[id]
 |.grow _ id _=>[id]
 |.lit (some f) _ _ _ _=>[f]
 |.app f _ _ _ _ _=>[f]
 |.sZ f _ _ _ _ _=>[f]
 |.rJ f _=>[f]
 |.call _ _ _ reg=>Bs reg
 |.own _ _ _ id _=>[id]
 |.qG _ _ id=>[id]
 |_=>[]
def Ac:List Operand→List (Sh×bp)→Bool
 |[],[]=>true
 |y::ys,(_,x)::xs=>bO y x&&Ac ys xs
 |_,_=>false
def Bu:List Operand→List (Sh×Sh×bp)→Bool
 |[],[]=>true
 |y::ys,(_,_,x)::xs=>bO y x&&Bu ys xs
 |_,_=>false
theorem Ng:∀{ys:List Operand} {xs:List (Sh×Sh×bp)},Bu ys xs=true→xs.length=ys.length∧∀(i:Nat) rs sh x y,xs[i]?=some (rs,sh,x)→ys[i]?=some y→bO y x=true
 |[],[],_=>by simp
 |[],_::_,h=>by simp[Bu]at h
 |_::_,[],h=>by simp[Bu]at h
 |y::ys,(rs,sh,x)::xs,h=>by
  simp only[Bu,bQ]at h;obtain⟨p,q⟩:=Ng h.2;refine⟨by simp[p],fun i xH xL x' y' hx hy=>?_⟩
  cases i with
  |zero=>simp at hx hy;obtain⟨_,_,rfl⟩:=hx;subst hy;exact h.1
  |succ i=>exact q i xH xL x' y' (by simpa using hx) (by simpa using hy)
def Db:List Operand→List bp→Bool
 |[],[]=>true
 |y::ys,x::xs=>bO y x&&Db ys xs
 |_,_=>false
def Ja:Option Operand→Option bp→Bool
 |none,none=>true
 |some y,some x=>bO y x
 |_,_=>false
def Dc(P:Program)(t:TypeId)(cells:List V):Bool :=
 match (P.info? t).bind (·.zero) with
 |some z=>uc z.cells.toList cells
 |none=>false
def Bv(P:Program)(t:TypeId)(n:Nat):Bool :=
 match P.underlying t with
 |some (.slice e)=>match P.info? e with
  |some i=>match i.zero with
   |some z=>i.size==n&&z.cells.size==n&&Nat.ble i.bytes 32768&&Nat.blt 0 n
   |none=>false
  |none=>false
 |_=>false
def Nh(P:Program)(t:TypeId)(mx:Nat):Bool :=
 match P.underlying t with
 |some (.slice e)=>match P.info? e with
  |some i=>Nat.ble mx 140737488355328&&Nat.ble (mx*i.bytes) 140737488355328
  |none=>false
 |_=>false
def Jb(P:Program)(t:TypeId)(ag:Bool)(ks:List Nat):Bool :=
 match P.underlying t with
 |some (.map kt _)=>pL P 100 kt==some ks&&kJ P kt==some ag&&eW P kt==some ks.length
 |_=>false
theorem TQ{P:Program}{t:TypeId}{ag:Bool}{ks:List Nat}(h:Jb P t ag ks=true):∃kt et,P.underlying t=some (.map kt et)∧wV P kt ag ks:=by
 unfold Jb at h;split at h
 ·rename_i kt et hu
  simp only[bQ,dO]at h;exact⟨kt,et,hu,⟨h.1.1,h.1.2,h.2⟩⟩
 ·cases h
def TR(P:Program)(t:TypeId)(zero:V):Bool :=
 match P.underlying t with
 |some (.map _ et)=>Ni P et zero
 |_=>false
structure Ps where
 sh:List (Nat×Nat)
 pk:Pk
structure vy(P:Program)(T:Pk)(ps:Ps):Prop where
 sh:∀f k,look f ps.sh=some k→FP P k f
 pk:∀p∈ps.pk,p∈T
def Nj(P:Program)(ps:Ps)(o:Oper)(vo:VO):Bool :=
 match vo,o.op with
 |.mv x,.move y=>bO y x
 |.mv x,.assign y=>bO y x
 |.pick c a b,.pick c' a' b'=>bO c' c&&bO a' a&&bO b' b
 |.obj _ cells,.alloc t=>Dc P t cells
 |.box _ x,.box _ y=>bO y x
 |.tP _ x,.box _ y=>bO y x
 |.tQ _ zero,.alloc t=>Dc P t zero
 |.tR,.makeMap _ none=>true
 |.u6 ag ks zero ok x k,.lookup t p q TS=>Jb P t ag ks&&TR P t zero&&ok==TS&&bO p x&&bO q k
 |.tS ag ks _ x k y,.mapUpdate t p q r=>o.dst.isNone&&Jb P t ag ks&&bO p x&&bO q k&&bO r y
 |.build zero qs,.build t ps=>Dc P t zero&&(match placeOf P t with|some pl=>Bh pl ps.toList qs|none=>false)
 |.lit _ sh zero len qs,.buildSlice t n ps=>Bv P t sh.length&&len==n&&Nat.blt 0 len&&Nat.ble (len*sh.length) 16777216&&Bj len ps.toList qs &&
  (match P.underlying t with|some (.slice e)=>(match (P.info? e).bind (·.zero) with|some z=>ug z.cells.toList sh zero|none=>false)|_=>false)
 |.lit none sh zero len [],.makeSlice t y z=>Bv P t sh.length&&Nat.ble len 65536&&bO y (.c (.int .i64 len))&&bO z (.c (.int .i64 len)) &&
  (match P.underlying t with|some (.slice e)=>(match (P.info? e).bind (·.zero) with|some z=>ug z.cells.toList sh zero|none=>false)|_=>false)
 |.load _ sz x,.load t y=>qL P t sz&&bO y x
 |.store _ sh x z,.store t y u=>o.dst.isNone&&eW P t==some sh.length&&bO y x&&bO u z
 |.sY x,.nilCheck y=>bO y x
 |.bin op x y,.binOp vz _ p q _=>decide (op=vz)&&bO p x&&bO q y
 |.beq neg x y,.binOp vz t p q _=>decide (vz=if neg then .neq else .eql)&&(match P.underlying t with|some .bool=>true|_=>false)&&bO p x&&bO q y
 |.iu neg ks x y,.binOp vz t p q _=>decide (vz=if neg then .neq else .eql)&&pL P 100 t==some ks&&kJ P t==some true && !P.eqGuardType P.depth t&&eW P t==some ks.length&&bO p x&&bO q y
 |.un op x,.unOp vz _ y=>decide (op=vz)&&bO y x
 |.conv k x,.convert s t y=>(P.underlying s).isSome&&(match P.underlying t with|some (.int k')=>decide (k'=k)|_=>false)&&bO y x
 |.rM off x,.fieldAddr s y fi=>bO y x&&(match P.underlying s with
  |some (.struct fs)=>(match fs[fi]? with|some f=>f.offset==off&&(match eW P f.type with|some n=>n != 0|none=>false)|none=>false)
  |_=>false)
 |.nx (some n) sz x i,.indexAddr t y j=>(bO y x || MB ps.pk y x)&&bO j i&&(match P.underlying t with|some (.array len e)=>len==n&&eW P e==some sz|_=>false)
 |.nx none sz x i,.indexAddr t y j=>bO y x&&bO j i&&(match P.underlying t with|some (.slice e)=>eW P e==some sz|_=>false)
 |.idx n sz ag x i,.index t y j=>bO y x&&bO j i&&(match P.underlying t with|some (.array len e)=>len==n&&eW P e==some sz&&qL P e (bif ag then some sz else none)|_=>false)
 |.field off sz x,.field t y fi=>bO y x&&(match P.underlying t with
  |some (.struct fs)=>(match fs[fi]? with|some f=>f.offset==off&&qL P f.type sz|none=>false)
  |_=>false)
 |.len x,.call ⟨.builtin .len,args,ts⟩=>(match args.toList with | [y]=>bO y x|_=>false)&&(match ts[0]? with|some t=>(match P.underlying t with|some (.slice _)=>true|_=>false)|none=>false)
 |.tW x,.call ⟨.builtin .len,args,ts⟩=>(match args.toList with | [y]=>bO y x|_=>false)&&(match ts[0]? with|some t=>(match P.underlying t with|some .string=>true|_=>false)|none=>false)
 |.app _ _ sh mx x y,.call ⟨.builtin .append,args,ts⟩=>(match args.toList with | [p,q]=>bO p x&&bO q y|_=>false)&&(match ts.toList with | [t,u]=>t==u&&Bv P t sh.length&&Nh P t mx|_=>false)
 |.sZ _ _ _ sh x y,.call ⟨.builtin .append,args,ts⟩=>(match args.toList with | [p,q]=>bO p x&&bO q y|_=>false)&&(match ts.toList with | [t,u]=>t==u&&Bv P t sh.length|_=>false)
 |.ext x i,.extract y j=>bO y x&&i==j
 |.call _ f args reg,.call ⟨.value g,as,_⟩=>bO g f&&Ac as.toList args&&inj reg
 |.grow f _ x,.call ⟨.value g,as,_⟩=>look f ps.sh==some 2&&jb f==f&&bO g (.c (.fn f []))&&(match as.toList with | [p,q]=>bO p (.c .b9)&&bO q x|_=>false)
 |.u7 x,.call ⟨.builtin .cap,args,ts⟩=>(match args.toList with | [y]=>bO y x|_=>false)&&(match ts[0]? with|some t=>(match P.underlying t with|some (.slice _)=>true|_=>false)|none=>false)
 |.tT _ _ x y,.call ⟨.builtin .copy,args,ts⟩=>(match args.toList with | [p,q]=>bO p x&&bO q y|_=>false)&&(match ts.toList with | [t,_]=>(match P.underlying t with|some (.slice e)=>eW P e==some 1|_=>false)|_=>false)
 |.tU x,.call ⟨.builtin .clear,args,ts⟩=>(match args.toList with | [p]=>bO p x|_=>false)&&(match ts.toList with | [t]=>(match P.underlying t with|some (.slice e)=>(match P.info? e with|some ie=>(match ie.zero with|some (.int .i64 0)=>true|_=>false)|none=>false)|_=>false)|_=>false)
 |.vb k f _ x,.call ⟨.value g,as,_⟩=>look f ps.sh==some k&&k != 2&&jb f==f&&bO g (.c (.fn f []))&&(match as.toList with | [q]=>bO q x|_=>false)
 |.own f args _ _ _,.call ⟨.value g,as,_⟩=>bO g f&&Bu as.toList args
 |.arr n sz x,.slice t y none none none=>bO y x&&(match P.underlying t with|some (.array k e)=>k==n&&eW P e==some sz|_=>false)
 |.qG f args _,.call ⟨.value g,as,_⟩=>bO g f&&Ac as.toList args&&o.dst.isSome
 |.qE f args,.call ⟨.value g,as,_⟩=>bO g f&&Ac as.toList args
 |.s6 _ zero x,.makeSlice t y z=>bO y x&&bO z x&&Bv P t zero.length&&(match P.underlying t with|some (.slice e)=>Dc P e zero|_=>false)
 |.vd sz x lo hi,.slice t y l h none=>bO y x&&Ja l lo&&Ja h hi&&(match P.underlying t with|some (.slice e)=>eW P e==some sz|_=>false)
 |.tY mx x y z,.call ⟨.builtin b,args,_⟩=>decide (b=if mx then .max else .min)&&(match args.toList with | [p,q,r]=>bO p x&&bO q y&&bO r z|_=>false)
 |.mm mx x y,.call ⟨.builtin b,args,_⟩=>decide (b=if mx then .max else .min)&&(match args.toList with | [p,q]=>bO p x&&bO q y|_=>false)
 |.vg f cap,.makeFunc (.func g) first xA=>jb f==g&&first.isEmpty&&Db xA.toList cap
 |.qF f args _,.call ⟨.value g,as,_⟩=>bO g f&&Bu as.toList args
 |.xv _,.buildSlice t n ps=>n==0&&ps.isEmpty&&(match P.underlying t with|some (.slice e)=>(eW P e).isSome|_=>false)
 |.u9 neg x,.binOp op t p q _=>decide (op=if neg then .neq else .eql)&&(match P.underlying t with|some (.slice _)=>true|_=>false)&&bO p x&&bO q (.c .b9)
 |.rJ _ x,.load t y=>qL P t none&&bO y x
 |.tV _ x z,.store t y u=>o.dst.isNone&&eW P t==some 1&&bO y x&&bO u z
 |_,_=>false
theorem FQ:∀{ys:List Operand} {xs:List (Sh×bp)},Ac ys xs=true→xs.length=ys.length∧∀(i:Nat) sh x y,xs[i]?=some (sh,x)→ys[i]?=some y→bO y x=true
 |[],[],_=>by simp
 |[],_::_,h=>by simp[Ac]at h
 |_::_,[],h=>by simp[Ac]at h
 |y::ys,(sh,x)::xs,h=>by
  simp only[Ac,bQ]at h;obtain⟨p,q⟩:=FQ h.2;refine⟨by simp[p],fun i xL x' y' hx hy=>?_⟩
  cases i with
  |zero=>simp at hx hy;obtain⟨_,rfl⟩:=hx;subst hy;exact h.1
  |succ i=>exact q i xL x' y' (by simpa using hx) (by simpa using hy)
theorem TT:∀{ys:List Operand} {xs:List bp},Db ys xs=true→xs.length=ys.length∧∀(i:Nat) x y,xs[i]?=some x→ys[i]?=some y→bO y x=true
 |[],[],_=>by simp
 |[],_::_,h=>by simp[Db]at h
 |_::_,[],h=>by simp[Db]at h
 |y::ys,x::xs,h=>by
  simp only[Db,bQ]at h;obtain⟨p,q⟩:=TT h.2;refine⟨by simp[p],fun i x' y' hx hy=>?_⟩
  cases i with
  |zero=>simp at hx hy;subst hx;subst hy;exact h.1
  |succ i=>exact q i x' y' (by simpa using hx) (by simpa using hy)
theorem Jc{P:Program}{t:TypeId}{cells:List V}(h:Dc P t cells=true):∃i z,P.info? t=some i∧i.zero=some z∧uc z.cells.toList cells=true:=by
 unfold Dc at h;cases hi:P.info? t with
 |none=>simp[hi]at h
 |some i =>
  cases hz:i.zero with
  |none=>simp[hi,hz]at h
  |some z=>simp[hi,hz]at h;exact⟨i,z,rfl,hz,h⟩
theorem aex{P:Program}{t e:TypeId}{mx:Nat}(h:Nh P t mx=true)(he:P.underlying t=some (.slice e)):mx≤140737488355328∧∀i,P.info? e=some i→mx*i.bytes≤140737488355328:=by
 unfold Nh at h;rw[he]at h;simp only at h;split at h
 ·rename_i i hi
  simp only[bQ]at h;refine⟨iD h.1,fun i' pI=>?_⟩;rw[hi]at pI;cases pI;exact iD h.2
 ·cases h
theorem FR{P:Program}{t:TypeId}{n:Nat}(h:Bv P t n=true):∃e i z,P.underlying t=some (.slice e)∧P.info? e=some i∧i.zero=some z∧i.size=n∧z.cells.size=n∧i.bytes≤32768∧0<n:=by
 unfold Bv at h;split at h
 ·rename_i e hu
  split at h
  ·rename_i i hi
   split at h
   ·rename_i z hz
    simp only[bQ,dO]at h;exact⟨e,i,z,hu,hi,hz,h.1.1.1,h.1.1.2,iD h.1.2,iD h.2⟩
   ·cases h
  ·cases h
 ·cases h
section
variable {P:Program} {E:Entry} {g g':Gh} {S S':St} {a:Act} {w w':World}
theorem aey{ps:Ps}(iP:vy P E.T ps){o:Oper}{vo:VO}{C:br}(bo:Nj P ps o vo=true)
  (hC:∀f args G r G',C f args G=some (r,G')→uh P E.T f args G r G')
  (hn:∀n∈vo.names,S.eM n) (xO:∀id x v,vo=.box id x→S.ev x=some v→v.ch id=false)
  (hR:R E g S a w) (hd:∀d,o.dst=some d→d<E.nt) (ah:VO.run C o.dst S vo=some S'):cd P E o S S' a w:=by
 unfold Nj at bo;split at bo
 ·rename_i x y ho;exact S9 (.inl ho) bo hR hd ah
 ·rename_i x y ho;exact S9 (.inr ho) bo hR hd ah
 ·rename_i c p q c' p' q' ho
  simp only[bQ]at bo;exact adi ho bo.1.1 bo.1.2 bo.2 hR hd ah
 ·rename_i id cells t ho
  obtain⟨i,z,h1,h2,h3⟩:=Jc bo;exact adI ho h1 h2 h3 (hn id (by simp[VO.names])) hR hd ah
 ·rename_i id x t y ho
  exact adJ ho bo (hn id (by simp[VO.names])) (fun v hv=>xO id x v rfl hv) hR hd ah
 ·rename_i sh x t y ho
  exact ad7 ho bo hR hd ah
 ·rename_i sh zero t ho
  obtain⟨i,z,h1,h2,h3⟩:=Jc bo;exact aez ho h1 h2 h3 hR hd ah
 ·rename_i t ho
  exact aeA ho hR hd ah
 ·rename_i ag ks zero ok x k t p q TS ho
  simp only[bQ,dO]at bo;obtain⟨⟨⟨⟨h1,h2⟩,rfl⟩,h4⟩,h5⟩:=bo;obtain⟨kt,et,hu,hk⟩:=TQ h1;simp only[TR,hu]at h2;exact aeB ho hu hk h2 h4 h5 hR hd ah
 ·rename_i ag ks sh x k y t p q r ho
  simp only[bQ,E5]at bo;obtain⟨⟨⟨⟨h1,h2⟩,h3⟩,h4⟩,h5⟩:=bo;obtain⟨kt,et,hu,hk⟩:=TQ h2;exact aeC ho h1 hu hk h3 h4 h5 hR (by rw[h1]at ah;exact h1 ▸ ah)
 ·rename_i zero qs t ps ho
  simp only[bQ]at bo;obtain⟨i,z,h1,h2,h3⟩:=Jc bo.1;have h4:=bo.2;split at h4
  ·rename_i pl lL;exact adU ho h1 h2 lL h3 h4 hR hd ah
  ·cases h4
 ·rename_i tok sh zero len qs t n ps ho
  simp only[bQ,dO]at bo;obtain⟨⟨⟨⟨⟨h1,h2⟩,h3⟩,h4⟩,h5⟩,h6⟩:=bo;subst h2;obtain⟨e,i,z,q1,q2,q3,q4,q5,q6,q7⟩:=FR h1;simp only[q1,q2,q3,E4]at h6;exact adX ho q1 q2 q3 q4 q5 q7 (iD h3) (iD h4) h6 h5 (fun f hf=>hn f (by subst hf;simp[VO.names])) hR hd ah
 ·rename_i sh zero len t y z ho
  simp only[bQ]at bo;obtain⟨⟨⟨⟨h1,h2⟩,h3⟩,h4⟩,h6⟩:=bo;obtain⟨e,i,z,q1,q2,q3,q4,q5,q6,q7⟩:=FR h1;simp only[q1,q2,q3,E4]at h6;exact ad1 ho q1 q2 q3 q4 q5 q6 q7 (iD h2) h6 h3 h4 hR hd ah
 ·rename_i root sz x t y ho
  simp only[bQ]at bo;exact adF ho bo.1 bo.2 hR hd ah
 ·rename_i root sh x z t y u ho
  simp only[bQ,dO,E5]at bo;exact ad6 ho bo.1.1.1 bo.1.1.2 bo.1.2 bo.2 hR (by rw[bo.1.1.1]at ah;exact bo.1.1.1 ▸ ah)
 ·rename_i x y ho;exact ads ho bo hR hd ah
 ·rename_i op x y vz t p q t' ho
  simp only[bQ,jA]at bo;obtain⟨⟨rfl,h1⟩,h2⟩:=bo;exact adp ho h1 h2 hR hd ah
 ·rename_i neg x y vz t p q t' ho
  simp only[bQ,jA]at bo;obtain⟨⟨⟨rfl,h0⟩,h1⟩,h2⟩:=bo;split at h0
  ·rename_i hu;exact ado ho hu h1 h2 hR hd ah
  ·cases h0
 ·rename_i neg ks x y vz t p q t' ho
  simp only[bQ,jA,dO,tK]at bo;obtain⟨⟨⟨⟨⟨⟨rfl,h0⟩,h1⟩,h2⟩,h3⟩,h4⟩,h5⟩:=bo;exact aeD ho h0 h1 h2 h3 h4 h5 hR hd ah
 ·rename_i op x vz t y ho
  simp only[bQ,jA]at bo;obtain⟨rfl,h1⟩:=bo;exact adq ho h1 hR hd ah
 ·rename_i k x s t y ho
  simp only[bQ,My]at bo;obtain⟨⟨⟨d,h0⟩,h1⟩,h2⟩:=bo;split at h1
  ·rename_i k' hu
   have:=E7 h1;subst this;exact adr ho h0 hu h2 hR hd ah
  ·cases h1
 ·rename_i off x s y fi ho
  simp only[bQ]at bo;obtain⟨h0,h1⟩:=bo;split at h1
  ·rename_i fs hu
   split at h1
   ·rename_i f hf
    simp only[bQ,dO]at h1;obtain⟨h2,h3⟩:=h1;split at h3
    ·rename_i n ec;exact adt ho hu hf ec (by simpa using h3) h2 h0 hR hd ah
    ·cases h3
   ·cases h1
  ·cases h1
 ·rename_i n sz x i t y j ho
  simp only[bQ]at bo;obtain⟨⟨h0,h1⟩,h2⟩:=bo;split at h2
  ·rename_i len e hu
   simp only[bQ,dO]at h2;obtain⟨rfl,h3⟩:=h2;refine adu ho hu h3 hR (fun v hv=>?_) h1 hd ah;rcases AP _ _ ▸ h0 with h0|h0
   ·exact cS hR h0 hv
   ·exact ada iP.pk hR h0 hv
  ·cases h2
 ·rename_i sz x i t y j ho
  simp only[bQ]at bo;obtain⟨⟨h0,h1⟩,h2⟩:=bo;split at h2
  ·rename_i e hu
   exact adv ho hu (eq_of_beq h2) h0 h1 hR hd ah
  ·cases h2
 ·rename_i n sz ag x i t y j ho
  simp only[bQ]at bo;obtain⟨⟨h0,h1⟩,h2⟩:=bo;split at h2
  ·rename_i len e hu
   simp only[bQ,dO]at h2;obtain⟨⟨rfl,h3⟩,h4⟩:=h2;exact adH ho hu h4 h3 h0 h1 hR hd ah
  ·cases h2
 ·rename_i off sz x t y fi ho
  simp only[bQ]at bo;obtain⟨h0,h1⟩:=bo;split at h1
  ·rename_i fs hu
   split at h1
   ·rename_i f hf
    simp only[bQ,dO]at h1;exact adG ho hu hf h1.1 h1.2 h0 hR hd ah
   ·cases h1
  ·cases h1
 ·rename_i x args ts ho
  simp only[bQ]at bo;obtain⟨h0,h1⟩:=bo;split at h0
  ·rename_i y hy
   split at h1
   ·rename_i t ht
    split at h1
    ·rename_i e hu
     have:args = #[y]:=by apply mr;simpa using hy
     subst this;exact adw ho ht hu h0 hR hd ah
    ·cases h1
   ·cases h1
  ·cases h0
 ·rename_i x args ts ho
  simp only[bQ]at bo;obtain⟨h0,h1⟩:=bo;split at h0
  ·rename_i y hy
   split at h1
   ·rename_i t ht
    split at h1
    ·rename_i hu
     have:args = #[y]:=by apply mr;simpa using hy
     subst this;exact ady ho ht hu h0 hR hd ah
    ·cases h1
   ·cases h1
  ·cases h0
 ·rename_i cb src sh mx x y args ts ho
  simp only[bQ]at bo;obtain⟨h0,h1⟩:=bo;split at h0
  ·rename_i p q vA
   split at h1
   ·rename_i t u Nk
    simp only[bQ,dO]at h1 h0;obtain⟨⟨rfl,h2⟩,h5⟩:=h1;obtain⟨e,i,z,q1,q2,q3,q4,q5,q6,q7⟩:=FR h2;have e1:args = #[p,q]:=by apply mr;simpa using vA
    have e2:ts = #[t,t]:=by apply mr;simpa using Nk
    subst e1;subst e2;exact adP (aex h5 q1) ho q1 ⟨⟨i,z,q2,q3,q4,q5,q6⟩,q7⟩ h0.1 h0.2 (hn cb (by simp[VO.names])) hR hd ah
   ·cases h1
  ·cases h0
 ·rename_i nw src oy sh x y args ts ho
  simp only[bQ]at bo;obtain⟨h0,h1⟩:=bo;split at h0
  ·rename_i p q vA
   split at h1
   ·rename_i t u Nk
    simp only[bQ,dO]at h1 h0;obtain⟨rfl,h2⟩:=h1;obtain⟨e,i,z,q1,q2,q3,q4,q5,q6,q7⟩:=FR h2;have e1:args = #[p,q]:=by apply mr;simpa using vA
    have e2:ts = #[t,t]:=by apply mr;simpa using Nk
    subst e1;subst e2;exact aeE ho q1 ⟨⟨i,z,q2,q3,q4,q5,q6⟩,q7⟩ h0.1 h0.2 (hn nw (by simp[VO.names])) hR hd ah
   ·cases h1
  ·cases h0
 ·rename_i x i y j ho
  simp only[bQ,dO]at bo;obtain⟨h0,rfl⟩:=bo;exact adz ho h0 hR hd ah
 ·rename_i alone f args reg gg as ts ho
  simp only[bQ]at bo;have uj:∀p f,look p reg=some f→S.eM f:=fun p f hp=>hn f (by
   simp only[VO.names,Bs];exact lV.2 ⟨(p,f),ui hp,rfl⟩)
  cases alone
  ·exact TK ho bo.1.1 (FQ bo.1.2) hC bo.2 uj hR hd ah
  ·exact aeu ho bo.1.1 (FQ bo.1.2) hC bo.2 uj hR hd ah
 ·rename_i f id x gg as ts ho
  simp only[bQ,dO]at bo;obtain⟨⟨⟨h0,qR⟩,h1⟩,h2⟩:=bo;split at h2
  ·rename_i p q hq
   simp only[bQ]at h2;have e:as = #[p,q]:=by apply mr;simpa using hq
   subst e;refine aeF ho ?_ h2.1 h2.2 (iP.sh f 2 h0) (hn id (by simp[VO.names])) hR hd ah
   have hr:=cS (v:=.fn f []) hR h1 rfl;generalize a.eval gg=y at hr;cases hr with
   |plain h _=>cases h
   |fn _ _ xs hl hx =>
    have:xs = #[]:=by
     apply CC;simpa using hl.symm
    rw[this,qR]
  ·cases h2
 ·rename_i x args ts ho
  simp only[bQ]at bo;obtain⟨h0,h1⟩:=bo;split at h0
  ·rename_i y hy
   have e:args = #[y]:=by apply mr;simpa using hy
   subst e;split at h1
   ·rename_i t ht
    split at h1
    ·rename_i e hu;exact adx ho ht hu h0 hR hd ah
    ·cases h1
   ·cases h1
  ·cases h0
 ·rename_i id src x y args ts ho
  simp only[bQ]at bo;obtain⟨h0,h1⟩:=bo;split at h0
  ·rename_i p q vA
   simp only[bQ]at h0;have e:args = #[p,q]:=by apply mr;simpa using vA
   subst e;split at h1
   ·rename_i t t2 ht
    have e2:ts = #[t,t2]:=by apply mr;simpa using ht
    subst e2;split at h1
    ·rename_i e hu;exact aeG ho hu (eq_of_beq h1) h0.1 h0.2 hR hd ah
    ·cases h1
   ·cases h1
  ·cases h0
 ·rename_i x args ts ho
  simp only[bQ]at bo;obtain⟨h0,h1⟩:=bo;split at h0
  ·rename_i p vA
   have e:args = #[p]:=by apply mr;simpa using vA
   subst e;split at h1
   ·rename_i t ht
    have e2:ts = #[t]:=by apply mr;simpa using ht
    subst e2;split at h1
    ·rename_i e hu
     split at h1
     ·rename_i ie Fy
      split at h1
      ·rename_i hz;exact aeH ho hu Fy hz h0 hR hd ah
      ·cases h1
     ·cases h1
    ·cases h1
   ·cases h1
  ·cases h0
 ·rename_i k f _ x gg as ts ho
  simp only[bQ,dO,bne_iff_ne,ne_eq]at bo;obtain⟨⟨⟨⟨h0,og⟩,qR⟩,h1⟩,h2⟩:=bo;split at h2
  ·rename_i q hq
   have e:as = #[q]:=by apply mr;simpa using hq
   subst e;have hmk:Nl P k f:=by
    have:=iP.sh f k h0;unfold FP at this;split at this
    ·exact absurd rfl og
    ·exact this
   refine aeJ ho ?_ h2 hmk hR hd (by simpa only[VO.run] using ah)
   have hr:=cS (v:=.fn f []) hR h1 rfl;generalize a.eval gg=y at hr;cases hr with
   |plain h _=>cases h
   |fn _ _ xs hl hx =>
    have:xs = #[]:=by
     apply CC;simpa using hl.symm
    rw[this,qR]
  ·cases h2
 ·rename_i f args ids id pos gg as ts ho
  simp only[bQ]at bo;exact Nm ho bo.1 (Ng bo.2) hC (hn id (by simp[VO.names])) hR hd ah
 ·rename_i n sz x t y ho
  simp only[bQ]at bo;obtain⟨h1,h2⟩:=bo;split at h2
  ·rename_i k e hu
   simp only[bQ,dO]at h2;obtain⟨rfl,h3⟩:=h2;exact aek ho hu h3 h1 hR hd ah
  ·cases h2
 ·rename_i f args id gg as ts ho
  simp only[bQ]at bo;exact aeK ho bo.1.1 (FQ bo.1.2) hC (hn id (by simp[VO.names])) bo.2 hR hd ah
 ·rename_i f args gg as ts ho
  simp only[bQ]at bo;exact TK (reg:=[]) ho bo.1 (FQ bo.2) hC rfl (by intro p f h;cases h) hR hd (TP ah)
 ·rename_i id zero x t y z ho
  simp only[bQ]at bo;obtain⟨⟨⟨h0,h1⟩,h2⟩,h3⟩:=bo;obtain⟨e,i,z,q1,q2,q3,q4,q5,q6,q7⟩:=FR h2;simp only[q1]at h3;obtain⟨i',z',r1,r2,r3⟩:=Jc h3;rw[q2]at r1;cases r1;rw[q3]at r2;cases r2;exact ad0 ho q1 q2 q3 q4 (by omega) q6 r3 h0 h1 (hn id (by simp[VO.names])) hR hd ah
 ·rename_i sz x lo hi t y l h ho
  simp only[bQ]at bo;obtain⟨⟨⟨h0,h1⟩,h2⟩,h3⟩:=bo;split at h3
  ·rename_i e hu
   refine ael ho hu (eq_of_beq h3) h0 ?_ ?_ hR hd ah
   ·unfold Ja at h1;split at h1<;>first|trivial|exact h1|cases h1
   ·unfold Ja at h2;split at h2<;>first|trivial|exact h2|cases h2
  ·cases h3
 ·rename_i mx x y z b args ts ho
  simp only[bQ,jA]at bo;obtain⟨rfl,h1⟩:=bo;split at h1
  ·rename_i p q r vA
   simp only[bQ]at h1;have e1:args = #[p,q,r]:=by apply mr;simpa using vA
   subst e1;exact adB ho h1.1.1 h1.1.2 h1.2 hR hd ah
  ·cases h1
 ·rename_i mx x y b args ts ho
  simp only[bQ,jA]at bo;obtain⟨rfl,h1⟩:=bo;split at h1
  ·rename_i p q vA
   simp only[bQ]at h1;have e1:args = #[p,q]:=by apply mr;simpa using vA
   subst e1;exact adA ho h1.1 h1.2 hR hd ah
  ·cases h1
 ·rename_i f cap gg first xA ho
  simp only[bQ,dO,Ss]at bo;obtain⟨⟨rfl,rfl⟩,h2⟩:=bo;obtain⟨q1,q2⟩:=TT h2;exact adC ho ⟨by simpa using q1,fun i x y hx hy=>q2 i x y hx (by simpa using hy)⟩ hR hd ah
 ·rename_i f args ids gg as ts ho
  simp only[bQ]at bo;exact aeL ho bo.1 (Ng bo.2) hC hR hd ah
 ·rename_i n t m ps ho
  simp only[bQ,dO,Ss]at bo;obtain⟨⟨rfl,rfl⟩,h⟩:=bo;split at h
  ·rename_i e hu
   obtain⟨k,hk⟩:=My.1 h;exact ad8 ho hu hk hR hd ah
  ·cases h
 ·rename_i neg x op t p q ty ho
  simp only[bQ,jA]at bo;obtain⟨⟨⟨h1,h2⟩,h3⟩,h4⟩:=bo;split at h2
  ·rename_i e hu
   exact ad9 ho h1 hu h3 h4 hR hd ah
  ·cases h2
 ·rename_i cb x t y ho
  simp only[bQ]at bo;exact aea ho bo.1 bo.2 (hn cb (by simp[VO.names])) hR hd ah
 ·rename_i cb x z t y u ho
  simp only[bQ,dO,E5]at bo;exact aeg ho bo.1.1.1 bo.1.1.2 bo.1.2 bo.2 hR (by rw[bo.1.1.1]at ah;exact bo.1.1.1 ▸ ah)
 ·cases bo
end
end Go.Vm
