/- The value machine, 10: what an operation may be, and that each does in the model what it does here. -/
import Derived.Test.YtocclbnghhaejaaGreatVmU
import Derived.Test.YtocclbnghhaejaaGreatVmS
namespace Go.Vm
set_option linter.all false
def VO.names:VO→List Nat
 |.obj id _ | .box id _ | .sE id _ _=>[id]
 |.grow _ id _=>[id]
 |.lit (some f) _ _ _ _=>[f]
 |.app f _ _ _ _ _=>[f]
 |.sD f _ _ _ _=>[f]
 |.sB f _=>[f]
 |.call _ _ _ reg=>AQ reg
 |.own _ _ _ id _=>[id]
 |.qm _ _ id=>[id]
 |_=>[]
def zA:List Operand→List (Sh×bq)→Bool
 |[],[]=>true
 |y::ys,(_,x)::xs=>bO y x&&zA ys xs
 |_,_=>false
def AT:List Operand→List (Sh×Sh×bq)→Bool
 |[],[]=>true
 |y::ys,(_,_,x)::xs=>bO y x&&AT ys xs
 |_,_=>false
theorem Ly:∀{ys:List Operand} {xs:List (Sh×Sh×bq)},AT ys xs=true→xs.length=ys.length∧∀(i:Nat) rs sh x y,xs[i]?=some (rs,sh,x)→ys[i]?=some y→bO y x=true
 |[],[],_=>by simp
 |[],_::_,h=>by simp[AT]at h
 |_::_,[],h=>by simp[AT]at h
 |y::ys,(rs,sh,x)::xs,h=>by
  simp only[AT,Bool.and_eq_true]at h;obtain⟨p,q⟩:=Ly h.2;refine⟨by simp[p],fun i xc xg x' y' hx hy=>?_⟩
  cases i with
  |zero=>simp at hx hy;obtain⟨_,_,rfl⟩:=hx;subst hy;exact h.1
  |succ i=>exact q i xc xg x' y' (by simpa using hx) (by simpa using hy)
def CG:List Operand→List bq→Bool
 |[],[]=>true
 |y::ys,x::xs=>bO y x&&CG ys xs
 |_,_=>false
def HK:Option Operand→Option bq→Bool
 |none,none=>true
 |some y,some x=>bO y x
 |_,_=>false
def CH(P:Program)(t:TypeId)(cells:List V):Bool :=
 match (P.info? t).bind (·.zero) with
 |some z=>tF z.cells.toList cells
 |none=>false
def AU(P:Program)(t:TypeId)(n:Nat):Bool :=
 match P.underlying t with
 |some (.slice e)=>match P.info? e with
  |some i=>match i.zero with
   |some z=>i.size==n&&z.cells.size==n&&Nat.ble i.bytes 32768&&Nat.blt 0 n
   |none=>false
  |none=>false
 |_=>false
def Lz(P:Program)(t:TypeId)(mx:Nat):Bool :=
 match P.underlying t with
 |some (.slice e)=>match P.info? e with
  |some i=>Nat.ble mx 140737488355328&&Nat.ble (mx*i.bytes) 140737488355328
  |none=>false
 |_=>false
def HL(P:Program)(t:TypeId)(ag:Bool)(ks:List Nat):Bool :=
 match P.underlying t with
 |some (.map kt _)=>ph P 100 kt==some ks&&kI P kt==some ag&&eO P kt==some ks.length
 |_=>false
theorem RQ{P:Program}{t:TypeId}{ag:Bool}{ks:List Nat}(h:HL P t ag ks=true):∃kt et,P.underlying t=some (.map kt et)∧we P kt ag ks:=by
 unfold HL at h;split at h
 ·rename_i kt et hu
  simp only[Bool.and_eq_true,beq_iff_eq]at h;exact⟨kt,et,hu,⟨h.1.1,h.1.2,h.2⟩⟩
 ·cases h
def RR(P:Program)(t:TypeId)(zero:V):Bool :=
 match P.underlying t with
 |some (.map _ et)=>LA P et zero
 |_=>false
def LB(P:Program)(ps:List (Nat×Nat))(o:Oper)(vo:VO):Bool :=
 match vo,o.op with
 |.mv x,.move y=>bO y x
 |.mv x,.assign y=>bO y x
 |.pick c a b,.pick c' a' b'=>bO c' c&&bO a' a&&bO b' b
 |.obj _ cells,.alloc t=>CH P t cells
 |.box _ x,.box _ y=>bO y x
 |.tp _ x,.box _ y=>bO y x
 |.tq _ zero,.alloc t=>CH P t zero
 |.tr,.makeMap _ none=>true
 |.uD ag ks zero ok x k,.lookup t p q RS=>HL P t ag ks&&RR P t zero&&ok==RS&&bO p x&&bO q k
 |.tu ag ks _ x k y,.mapUpdate t p q r=>o.dst.isNone&&HL P t ag ks&&bO p x&&bO q k&&bO r y
 |.build zero qs,.build t ps=>CH P t zero&&(match placeOf P t with|some pl=>AI pl ps.toList qs|none=>false)
 |.lit _ sh zero len qs,.buildSlice t n ps=>AU P t sh.length&&len==n&&Nat.blt 0 len&&Nat.ble (len*sh.length) 16777216&&AK len ps.toList qs &&
  (match P.underlying t with|some (.slice e)=>(match (P.info? e).bind (·.zero) with|some z=>tJ z.cells.toList sh zero|none=>false)|_=>false)
 |.lit none sh zero len [],.makeSlice t y z=>AU P t sh.length&&Nat.ble len 65536&&bO y (.c (.int .i64 len))&&bO z (.c (.int .i64 len)) &&
  (match P.underlying t with|some (.slice e)=>(match (P.info? e).bind (·.zero) with|some z=>tJ z.cells.toList sh zero|none=>false)|_=>false)
 |.load _ sz x,.load t y=>qt P t sz&&bO y x
 |.store _ sh x z,.store t y u=>o.dst.isNone&&eO P t==some sh.length&&bO y x&&bO u z
 |.sC x,.nilCheck y=>bO y x
 |.bin op x y,.binOp uZ _ p q _=>decide (op=uZ)&&bO p x&&bO q y
 |.beq neg x y,.binOp uZ t p q _=>decide (uZ=if neg then .neq else .eql)&&(match P.underlying t with|some .bool=>true|_=>false)&&bO p x&&bO q y
 |.iy neg ks x y,.binOp uZ t p q _=>decide (uZ=if neg then .neq else .eql)&&ph P 100 t==some ks&&kI P t==some true && !P.eqGuardType P.depth t&&eO P t==some ks.length&&bO p x&&bO q y
 |.un op x,.unOp uZ _ y=>decide (op=uZ)&&bO y x
 |.conv k x,.convert s t y=>(P.underlying s).isSome&&(match P.underlying t with|some (.int k')=>decide (k'=k)|_=>false)&&bO y x
 |.ri off x,.fieldAddr s y fi=>bO y x&&(match P.underlying s with
  |some (.struct fs)=>(match fs[fi]? with|some f=>f.offset==off&&(match eO P f.type with|some n=>n != 0|none=>false)|none=>false)
  |_=>false)
 |.na (some n) sz x i,.indexAddr t y j=>bO y x&&bO j i&&(match P.underlying t with|some (.array len e)=>len==n&&eO P e==some sz|_=>false)
 |.na none sz x i,.indexAddr t y j=>bO y x&&bO j i&&(match P.underlying t with|some (.slice e)=>eO P e==some sz|_=>false)
 |.idx n sz ag x i,.index t y j=>bO y x&&bO j i&&(match P.underlying t with|some (.array len e)=>len==n&&eO P e==some sz&&qt P e (bif ag then some sz else none)|_=>false)
 |.field off sz x,.field t y fi=>bO y x&&(match P.underlying t with
  |some (.struct fs)=>(match fs[fi]? with|some f=>f.offset==off&&qt P f.type sz|none=>false)
  |_=>false)
 |.len x,.call ⟨.builtin .len,args,ts⟩=>(match args.toList with | [y]=>bO y x|_=>false)&&(match ts[0]? with|some t=>(match P.underlying t with|some (.slice _)=>true|_=>false)|none=>false)
 |.tx x,.call ⟨.builtin .len,args,ts⟩=>(match args.toList with | [y]=>bO y x|_=>false)&&(match ts[0]? with|some t=>(match P.underlying t with|some .string=>true|_=>false)|none=>false)
 |.app _ _ sh mx x y,.call ⟨.builtin .append,args,ts⟩=>(match args.toList with | [p,q]=>bO p x&&bO q y|_=>false)&&(match ts.toList with | [t,u]=>t==u&&AU P t sh.length&&Lz P t mx|_=>false)
 |.sD _ _ sh x y,.call ⟨.builtin .append,args,ts⟩=>(match args.toList with | [p,q]=>bO p x&&bO q y|_=>false)&&(match ts.toList with | [t,u]=>t==u&&AU P t sh.length|_=>false)
 |.ext x i,.extract y j=>bO y x&&i==j
 |.call _ f args reg,.call ⟨.value g,as,_⟩=>bO g f&&zA as.toList args&&inj reg
 |.grow f _ x,.call ⟨.value g,as,_⟩=>look f ps==some 2&&bO g (.c (.fn f []))&&(match as.toList with | [p,q]=>bO p (.c .bV)&&bO q x|_=>false)
 |.uF x,.call ⟨.builtin .cap,args,ts⟩=>(match args.toList with | [y]=>bO y x|_=>false)&&(match ts[0]? with|some t=>(match P.underlying t with|some (.slice _)=>true|_=>false)|none=>false)
 |.tv _ _ x y,.call ⟨.builtin .copy,args,ts⟩=>(match args.toList with | [p,q]=>bO p x&&bO q y|_=>false)&&(match ts.toList with | [t,_]=>(match P.underlying t with|some (.slice e)=>eO P e==some 1|_=>false)|_=>false)
 |.uH k f _ x,.call ⟨.value g,as,_⟩=>look f ps==some k&&k != 2&&bO g (.c (.fn f []))&&(match as.toList with | [q]=>bO q x|_=>false)
 |.own f args _ _ _,.call ⟨.value g,as,_⟩=>bO g f&&AT as.toList args
 |.arr n sz x,.slice t y none none none=>bO y x&&(match P.underlying t with|some (.array k e)=>k==n&&eO P e==some sz|_=>false)
 |.qm f args _,.call ⟨.value g,as,_⟩=>bO g f&&zA as.toList args&&o.dst.isSome
 |.qk f args,.call ⟨.value g,as,_⟩=>bO g f&&zA as.toList args
 |.sE _ zero x,.makeSlice t y z=>bO y x&&bO z x&&AU P t zero.length&&(match P.underlying t with|some (.slice e)=>CH P e zero|_=>false)
 |.uI sz x lo hi,.slice t y l h none=>bO y x&&HK l lo&&HK h hi&&(match P.underlying t with|some (.slice e)=>eO P e==some sz|_=>false)
 |.tA mx x y z,.call ⟨.builtin b,args,_⟩=>decide (b=if mx then .max else .min)&&(match args.toList with | [p,q,r]=>bO p x&&bO q y&&bO r z|_=>false)
 |.mm mx x y,.call ⟨.builtin b,args,_⟩=>decide (b=if mx then .max else .min)&&(match args.toList with | [p,q]=>bO p x&&bO q y|_=>false)
 |.uJ f cap,.makeFunc (.func g) first w5=>f==g&&first.isEmpty&&CG w5.toList cap
 |.ql f args _,.call ⟨.value g,as,_⟩=>bO g f&&AT as.toList args
 |.wV _,.buildSlice t n ps=>n==0&&ps.isEmpty&&(match P.underlying t with|some (.slice e)=>(eO P e).isSome|_=>false)
 |.uG neg x,.binOp op t p q _=>decide (op=if neg then .neq else .eql)&&(match P.underlying t with|some (.slice _)=>true|_=>false)&&bO p x&&bO q (.c .bV)
 |.sB _ x,.load t y=>qt P t none&&bO y x
 |.tw _ x z,.store t y u=>o.dst.isNone&&eO P t==some 1&&bO y x&&bO u z
 |_,_=>false
theorem EL:∀{ys:List Operand} {xs:List (Sh×bq)},zA ys xs=true→xs.length=ys.length∧∀(i:Nat) sh x y,xs[i]?=some (sh,x)→ys[i]?=some y→bO y x=true
 |[],[],_=>by simp
 |[],_::_,h=>by simp[zA]at h
 |_::_,[],h=>by simp[zA]at h
 |y::ys,(sh,x)::xs,h=>by
  simp only[zA,Bool.and_eq_true]at h;obtain⟨p,q⟩:=EL h.2;refine⟨by simp[p],fun i xg x' y' hx hy=>?_⟩
  cases i with
  |zero=>simp at hx hy;obtain⟨_,rfl⟩:=hx;subst hy;exact h.1
  |succ i=>exact q i xg x' y' (by simpa using hx) (by simpa using hy)
theorem RT:∀{ys:List Operand} {xs:List bq},CG ys xs=true→xs.length=ys.length∧∀(i:Nat) x y,xs[i]?=some x→ys[i]?=some y→bO y x=true
 |[],[],_=>by simp
 |[],_::_,h=>by simp[CG]at h
 |_::_,[],h=>by simp[CG]at h
 |y::ys,x::xs,h=>by
  simp only[CG,Bool.and_eq_true]at h;obtain⟨p,q⟩:=RT h.2;refine⟨by simp[p],fun i x' y' hx hy=>?_⟩
  cases i with
  |zero=>simp at hx hy;subst hx;subst hy;exact h.1
  |succ i=>exact q i x' y' (by simpa using hx) (by simpa using hy)
theorem HM{P:Program}{t:TypeId}{cells:List V}(h:CH P t cells=true):∃i z,P.info? t=some i∧i.zero=some z∧tF z.cells.toList cells=true:=by
 unfold CH at h;cases hi:P.info? t with
 |none=>simp[hi]at h
 |some i =>
  cases hz:i.zero with
  |none=>simp[hi,hz]at h
  |some z=>simp[hi,hz]at h;exact⟨i,z,rfl,hz,h⟩
theorem adu{P:Program}{t e:TypeId}{mx:Nat}(h:Lz P t mx=true)(he:P.underlying t=some (.slice e)):mx≤140737488355328∧∀i,P.info? e=some i→mx*i.bytes≤140737488355328:=by
 unfold Lz at h;rw[he]at h;simp only at h;split at h
 ·rename_i i hi
  simp only[Bool.and_eq_true]at h;refine⟨Nat.le_of_ble_eq_true h.1,fun i' qA=>?_⟩;rw[hi]at qA;cases qA;exact Nat.le_of_ble_eq_true h.2
 ·cases h
theorem EM{P:Program}{t:TypeId}{n:Nat}(h:AU P t n=true):∃e i z,P.underlying t=some (.slice e)∧P.info? e=some i∧i.zero=some z∧i.size=n∧z.cells.size=n∧i.bytes≤32768∧0<n:=by
 unfold AU at h;split at h
 ·rename_i e hu
  split at h
  ·rename_i i hi
   split at h
   ·rename_i z hz
    simp only[Bool.and_eq_true,beq_iff_eq]at h;exact⟨e,i,z,hu,hi,hz,h.1.1.1,h.1.1.2,Nat.le_of_ble_eq_true h.1.2,Nat.le_of_ble_eq_true h.2⟩
   ·cases h
  ·cases h
 ·cases h
section
variable {P:Program} {E:Entry} {g g':Gh} {S S':St} {a:Act} {w w':World}
theorem adv{ps:List (Nat×Nat)}(iY:∀f k,look f ps=some k→qD P k f){o:Oper}{vo:VO}{C:bw}(bn:LB P ps o vo=true)
  (hC:∀f args G r G',C f args G=some (r,G')→tL P f args G r G')
  (hn:∀n∈vo.names,S.eG n) (xj:∀id x v,vo=.box id x→S.ev x=some v→v.cj id=false)
  (hR:R E g S a w) (hd:∀d,o.dst=some d→d<E.nt) (ah:VO.run C o.dst S vo=some S'):cb P E o S S' a w:=by
 unfold LB at bn;split at bn
 ·rename_i x y ho;exact Q2 (.inl ho) bn hR hd ah
 ·rename_i x y ho;exact Q2 (.inr ho) bn hR hd ah
 ·rename_i c p q c' p' q' ho
  simp only[Bool.and_eq_true]at bn;exact acb ho bn.1.1 bn.1.2 bn.2 hR hd ah
 ·rename_i id cells t ho
  obtain⟨i,z,h1,h2,h3⟩:=HM bn;exact acE ho h1 h2 h3 (hn id (by simp[VO.names])) hR hd ah
 ·rename_i id x t y ho
  exact acF ho bn (hn id (by simp[VO.names])) (fun v hv=>xj id x v rfl hv) hR hd ah
 ·rename_i sh x t y ho
  exact ac2 ho bn hR hd ah
 ·rename_i sh zero t ho
  obtain⟨i,z,h1,h2,h3⟩:=HM bn;exact adw ho h1 h2 h3 hR hd ah
 ·rename_i t ho
  exact adx ho hR hd ah
 ·rename_i ag ks zero ok x k t p q RS ho
  simp only[Bool.and_eq_true,beq_iff_eq]at bn;obtain⟨⟨⟨⟨h1,h2⟩,rfl⟩,h4⟩,h5⟩:=bn;obtain⟨kt,et,hu,hk⟩:=RQ h1;simp only[RR,hu]at h2;exact ady ho hu hk h2 h4 h5 hR hd ah
 ·rename_i ag ks sh x k y t p q r ho
  simp only[Bool.and_eq_true,Option.isNone_iff_eq_none]at bn;obtain⟨⟨⟨⟨h1,h2⟩,h3⟩,h4⟩,h5⟩:=bn;obtain⟨kt,et,hu,hk⟩:=RQ h2;exact adz ho h1 hu hk h3 h4 h5 hR (by rw[h1]at ah;exact h1 ▸ ah)
 ·rename_i zero qs t ps ho
  simp only[Bool.and_eq_true]at bn;obtain⟨i,z,h1,h2,h3⟩:=HM bn.1;have h4:=bn.2;split at h4
  ·rename_i pl lM;exact acP ho h1 h2 lM h3 h4 hR hd ah
  ·cases h4
 ·rename_i tok sh zero len qs t n ps ho
  simp only[Bool.and_eq_true,beq_iff_eq]at bn;obtain⟨⟨⟨⟨⟨h1,h2⟩,h3⟩,h4⟩,h5⟩,h6⟩:=bn;subst h2;obtain⟨e,i,z,q1,q2,q3,q4,q5,q6,q7⟩:=EM h1;simp only[q1,q2,q3,Option.bind_some]at h6;exact acS ho q1 q2 q3 q4 q5 q7 (Nat.le_of_ble_eq_true h3) (Nat.le_of_ble_eq_true h4) h6 h5 (fun f hf=>hn f (by subst hf;simp[VO.names])) hR hd ah
 ·rename_i sh zero len t y z ho
  simp only[Bool.and_eq_true]at bn;obtain⟨⟨⟨⟨h1,h2⟩,h3⟩,h4⟩,h6⟩:=bn;obtain⟨e,i,z,q1,q2,q3,q4,q5,q6,q7⟩:=EM h1;simp only[q1,q2,q3,Option.bind_some]at h6;exact acW ho q1 q2 q3 q4 q5 q6 q7 (Nat.le_of_ble_eq_true h2) h6 h3 h4 hR hd ah
 ·rename_i root sz x t y ho
  simp only[Bool.and_eq_true]at bn;exact acB ho bn.1 bn.2 hR hd ah
 ·rename_i root sh x z t y u ho
  simp only[Bool.and_eq_true,beq_iff_eq,Option.isNone_iff_eq_none]at bn;exact ac1 ho bn.1.1.1 bn.1.1.2 bn.1.2 bn.2 hR (by rw[bn.1.1.1]at ah;exact bn.1.1.1 ▸ ah)
 ·rename_i x y ho;exact acn ho bn hR hd ah
 ·rename_i op x y uZ t p q t' ho
  simp only[Bool.and_eq_true,decide_eq_true_eq]at bn;obtain⟨⟨rfl,h1⟩,h2⟩:=bn;exact acj ho h1 h2 hR hd ah
 ·rename_i neg x y uZ t p q t' ho
  simp only[Bool.and_eq_true,decide_eq_true_eq]at bn;obtain⟨⟨⟨rfl,h0⟩,h1⟩,h2⟩:=bn;split at h0
  ·rename_i hu;exact aci ho hu h1 h2 hR hd ah
  ·cases h0
 ·rename_i neg ks x y uZ t p q t' ho
  simp only[Bool.and_eq_true,decide_eq_true_eq,beq_iff_eq,Bool.not_eq_true']at bn;obtain⟨⟨⟨⟨⟨⟨rfl,h0⟩,h1⟩,h2⟩,h3⟩,h4⟩,h5⟩:=bn;exact adA ho h0 h1 h2 h3 h4 h5 hR hd ah
 ·rename_i op x uZ t y ho
  simp only[Bool.and_eq_true,decide_eq_true_eq]at bn;obtain⟨rfl,h1⟩:=bn;exact ack ho h1 hR hd ah
 ·rename_i k x s t y ho
  simp only[Bool.and_eq_true,Option.isSome_iff_exists]at bn;obtain⟨⟨⟨d,h0⟩,h1⟩,h2⟩:=bn;split at h1
  ·rename_i k' hu
   have:=of_decide_eq_true h1;subst this;exact acm ho h0 hu h2 hR hd ah
  ·cases h1
 ·rename_i off x s y fi ho
  simp only[Bool.and_eq_true]at bn;obtain⟨h0,h1⟩:=bn;split at h1
  ·rename_i fs hu
   split at h1
   ·rename_i f hf
    simp only[Bool.and_eq_true,beq_iff_eq]at h1;obtain⟨h2,h3⟩:=h1;split at h3
    ·rename_i n eb;exact aco ho hu hf eb (by simpa using h3) h2 h0 hR hd ah
    ·cases h3
   ·cases h1
  ·cases h1
 ·rename_i n sz x i t y j ho
  simp only[Bool.and_eq_true]at bn;obtain⟨⟨h0,h1⟩,h2⟩:=bn;split at h2
  ·rename_i len e hu
   simp only[Bool.and_eq_true,beq_iff_eq]at h2;obtain⟨rfl,h3⟩:=h2;exact acp ho hu h3 h0 h1 hR hd ah
  ·cases h2
 ·rename_i sz x i t y j ho
  simp only[Bool.and_eq_true]at bn;obtain⟨⟨h0,h1⟩,h2⟩:=bn;split at h2
  ·rename_i e hu
   exact acq ho hu (eq_of_beq h2) h0 h1 hR hd ah
  ·cases h2
 ·rename_i n sz ag x i t y j ho
  simp only[Bool.and_eq_true]at bn;obtain⟨⟨h0,h1⟩,h2⟩:=bn;split at h2
  ·rename_i len e hu
   simp only[Bool.and_eq_true,beq_iff_eq]at h2;obtain⟨⟨rfl,h3⟩,h4⟩:=h2;exact acD ho hu h4 h3 h0 h1 hR hd ah
  ·cases h2
 ·rename_i off sz x t y fi ho
  simp only[Bool.and_eq_true]at bn;obtain⟨h0,h1⟩:=bn;split at h1
  ·rename_i fs hu
   split at h1
   ·rename_i f hf
    simp only[Bool.and_eq_true,beq_iff_eq]at h1;exact acC ho hu hf h1.1 h1.2 h0 hR hd ah
   ·cases h1
  ·cases h1
 ·rename_i x args ts ho
  simp only[Bool.and_eq_true]at bn;obtain⟨h0,h1⟩:=bn;split at h0
  ·rename_i y hy
   split at h1
   ·rename_i t ht
    split at h1
    ·rename_i e hu
     have:args = #[y]:=by apply Array.ext';simpa using hy
     subst this;exact acr ho ht hu h0 hR hd ah
    ·cases h1
   ·cases h1
  ·cases h0
 ·rename_i x args ts ho
  simp only[Bool.and_eq_true]at bn;obtain⟨h0,h1⟩:=bn;split at h0
  ·rename_i y hy
   split at h1
   ·rename_i t ht
    split at h1
    ·rename_i hu
     have:args = #[y]:=by apply Array.ext';simpa using hy
     subst this;exact acu ho ht hu h0 hR hd ah
    ·cases h1
   ·cases h1
  ·cases h0
 ·rename_i bZ src sh mx x y args ts ho
  simp only[Bool.and_eq_true]at bn;obtain⟨h0,h1⟩:=bn;split at h0
  ·rename_i p q xk
   split at h1
   ·rename_i t u LC
    simp only[Bool.and_eq_true,beq_iff_eq]at h1 h0;obtain⟨⟨rfl,h2⟩,h5⟩:=h1;obtain⟨e,i,z,q1,q2,q3,q4,q5,q6,q7⟩:=EM h2;have e1:args = #[p,q]:=by apply Array.ext';simpa using xk
    have e2:ts = #[t,t]:=by apply Array.ext';simpa using LC
    subst e1;subst e2;exact acL (adu h5 q1) ho q1 ⟨⟨i,z,q2,q3,q4,q5,q6⟩,q7⟩ h0.1 h0.2 (hn bZ (by simp[VO.names])) hR hd ah
   ·cases h1
  ·cases h0
 ·rename_i nw src sh x y args ts ho
  simp only[Bool.and_eq_true]at bn;obtain⟨h0,h1⟩:=bn;split at h0
  ·rename_i p q xk
   split at h1
   ·rename_i t u LC
    simp only[Bool.and_eq_true,beq_iff_eq]at h1 h0;obtain⟨rfl,h2⟩:=h1;obtain⟨e,i,z,q1,q2,q3,q4,q5,q6,q7⟩:=EM h2;have e1:args = #[p,q]:=by apply Array.ext';simpa using xk
    have e2:ts = #[t,t]:=by apply Array.ext';simpa using LC
    subst e1;subst e2;exact adB ho q1 ⟨⟨i,z,q2,q3,q4,q5,q6⟩,q7⟩ h0.1 h0.2 (hn nw (by simp[VO.names])) hR hd ah
   ·cases h1
  ·cases h0
 ·rename_i x i y j ho
  simp only[Bool.and_eq_true,beq_iff_eq]at bn;obtain⟨h0,rfl⟩:=bn;exact acv ho h0 hR hd ah
 ·rename_i alone f args reg gg as ts ho
  simp only[Bool.and_eq_true]at bn;have tN:∀p f,look p reg=some f→S.eG f:=fun p f hp=>hn f (by
   simp only[VO.names,AQ];exact List.mem_map.2 ⟨(p,f),tM hp,rfl⟩)
  cases alone
  ·exact RK ho bn.1.1 (EL bn.1.2) hC bn.2 tN hR hd ah
  ·exact adr ho bn.1.1 (EL bn.1.2) hC bn.2 tN hR hd ah
 ·rename_i f id x gg as ts ho
  simp only[Bool.and_eq_true,beq_iff_eq]at bn;obtain⟨⟨h0,h1⟩,h2⟩:=bn;split at h2
  ·rename_i p q hq
   simp only[Bool.and_eq_true]at h2;have e:as = #[p,q]:=by apply Array.ext';simpa using hq
   subst e;refine adC ho ?_ h2.1 h2.2 (iY f 2 h0) (hn id (by simp[VO.names])) hR hd ah
   have hr:=cQ (v:=.fn f []) hR h1 rfl;generalize a.eval gg=y at hr;cases hr with
   |plain h _=>cases h
   |fn _ _ xs hl hx =>
    have:xs = #[]:=by
     apply Array.eq_empty_of_size_eq_zero;simpa using hl.symm
    rw[this]
  ·cases h2
 ·rename_i x args ts ho
  simp only[Bool.and_eq_true]at bn;obtain⟨h0,h1⟩:=bn;split at h0
  ·rename_i y hy
   have e:args = #[y]:=by apply Array.ext';simpa using hy
   subst e;split at h1
   ·rename_i t ht
    split at h1
    ·rename_i e hu;exact acs ho ht hu h0 hR hd ah
    ·cases h1
   ·cases h1
  ·cases h0
 ·rename_i id src x y args ts ho
  simp only[Bool.and_eq_true]at bn;obtain⟨h0,h1⟩:=bn;split at h0
  ·rename_i p q xk
   simp only[Bool.and_eq_true]at h0;have e:args = #[p,q]:=by apply Array.ext';simpa using xk
   subst e;split at h1
   ·rename_i t t2 ht
    have e2:ts = #[t,t2]:=by apply Array.ext';simpa using ht
    subst e2;split at h1
    ·rename_i e hu;exact adD ho hu (eq_of_beq h1) h0.1 h0.2 hR hd ah
    ·cases h1
   ·cases h1
  ·cases h0
 ·rename_i k f _ x gg as ts ho
  simp only[Bool.and_eq_true,beq_iff_eq,bne_iff_ne,ne_eq]at bn;obtain⟨⟨⟨h0,mP⟩,h1⟩,h2⟩:=bn;split at h2
  ·rename_i q hq
   have e:as = #[q]:=by apply Array.ext';simpa using hq
   subst e;have hmk:LD P k f:=by
    have:=iY f k h0;unfold qD at this;split at this
    ·exact absurd rfl mP
    ·exact this
   refine adF ho ?_ h2 hmk hR hd (by simpa only[VO.run] using ah)
   have hr:=cQ (v:=.fn f []) hR h1 rfl;generalize a.eval gg=y at hr;cases hr with
   |plain h _=>cases h
   |fn _ _ xs hl hx =>
    have:xs = #[]:=by
     apply Array.eq_empty_of_size_eq_zero;simpa using hl.symm
    rw[this]
  ·cases h2
 ·rename_i f args ids id pos gg as ts ho
  simp only[Bool.and_eq_true]at bn;exact LF ho bn.1 (Ly bn.2) hC (hn id (by simp[VO.names])) hR hd ah
 ·rename_i n sz x t y ho
  simp only[Bool.and_eq_true]at bn;obtain⟨h1,h2⟩:=bn;split at h2
  ·rename_i k e hu
   simp only[Bool.and_eq_true,beq_iff_eq]at h2;obtain⟨rfl,h3⟩:=h2;exact adh ho hu h3 h1 hR hd ah
  ·cases h2
 ·rename_i f args id gg as ts ho
  simp only[Bool.and_eq_true]at bn;exact adG ho bn.1.1 (EL bn.1.2) hC (hn id (by simp[VO.names])) bn.2 hR hd ah
 ·rename_i f args gg as ts ho
  simp only[Bool.and_eq_true]at bn;exact RK (reg:=[]) ho bn.1 (EL bn.2) hC rfl (by intro p f h;cases h) hR hd (RP ah)
 ·rename_i id zero x t y z ho
  simp only[Bool.and_eq_true]at bn;obtain⟨⟨⟨h0,h1⟩,h2⟩,h3⟩:=bn;obtain⟨e,i,z,q1,q2,q3,q4,q5,q6,q7⟩:=EM h2;simp only[q1]at h3;obtain⟨i',z',r1,r2,r3⟩:=HM h3;rw[q2]at r1;cases r1;rw[q3]at r2;cases r2;exact acV ho q1 q2 q3 q4 (by omega) q6 r3 h0 h1 (hn id (by simp[VO.names])) hR hd ah
 ·rename_i sz x lo hi t y l h ho
  simp only[Bool.and_eq_true]at bn;obtain⟨⟨⟨h0,h1⟩,h2⟩,h3⟩:=bn;split at h3
  ·rename_i e hu
   refine adi ho hu (eq_of_beq h3) h0 ?_ ?_ hR hd ah
   ·unfold HK at h1;split at h1<;>first|trivial|exact h1|cases h1
   ·unfold HK at h2;split at h2<;>first|trivial|exact h2|cases h2
  ·cases h3
 ·rename_i mx x y z b args ts ho
  simp only[Bool.and_eq_true,decide_eq_true_eq]at bn;obtain⟨rfl,h1⟩:=bn;split at h1
  ·rename_i p q r xk
   simp only[Bool.and_eq_true]at h1;have e1:args = #[p,q,r]:=by apply Array.ext';simpa using xk
   subst e1;exact acx ho h1.1.1 h1.1.2 h1.2 hR hd ah
  ·cases h1
 ·rename_i mx x y b args ts ho
  simp only[Bool.and_eq_true,decide_eq_true_eq]at bn;obtain⟨rfl,h1⟩:=bn;split at h1
  ·rename_i p q xk
   simp only[Bool.and_eq_true]at h1;have e1:args = #[p,q]:=by apply Array.ext';simpa using xk
   subst e1;exact acw ho h1.1 h1.2 hR hd ah
  ·cases h1
 ·rename_i f cap gg first w5 ho
  simp only[Bool.and_eq_true,beq_iff_eq,Array.isEmpty_iff]at bn;obtain⟨⟨rfl,rfl⟩,h2⟩:=bn;obtain⟨q1,q2⟩:=RT h2;exact acy ho ⟨by simpa using q1,fun i x y hx hy=>q2 i x y hx (by simpa using hy)⟩ hR hd ah
 ·rename_i f args ids gg as ts ho
  simp only[Bool.and_eq_true]at bn;exact adH ho bn.1 (Ly bn.2) hC hR hd ah
 ·rename_i n t m ps ho
  simp only[Bool.and_eq_true,beq_iff_eq,Array.isEmpty_iff]at bn;obtain⟨⟨rfl,rfl⟩,h⟩:=bn;split at h
  ·rename_i e hu
   obtain⟨k,hk⟩:=Option.isSome_iff_exists.1 h;exact ac3 ho hu hk hR hd ah
  ·cases h
 ·rename_i neg x op t p q ty ho
  simp only[Bool.and_eq_true,decide_eq_true_eq]at bn;obtain⟨⟨⟨h1,h2⟩,h3⟩,h4⟩:=bn;split at h2
  ·rename_i e hu
   exact ac4 ho h1 hu h3 h4 hR hd ah
  ·cases h2
 ·rename_i bZ x t y ho
  simp only[Bool.and_eq_true]at bn;exact ac5 ho bn.1 bn.2 (hn bZ (by simp[VO.names])) hR hd ah
 ·rename_i bZ x z t y u ho
  simp only[Bool.and_eq_true,beq_iff_eq,Option.isNone_iff_eq_none]at bn;exact adb ho bn.1.1.1 bn.1.1.2 bn.1.2 bn.2 hR (by rw[bn.1.1.1]at ah;exact bn.1.1.1 ▸ ah)
 ·cases bn
end
end Go.Vm
