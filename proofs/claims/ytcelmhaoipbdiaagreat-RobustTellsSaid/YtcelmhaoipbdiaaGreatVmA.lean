/- The value machine, 10: what an operation may be, and that each does in the model what it does here. -/
import Derived.Test.YtcelmhaoipbdiaaGreatVmU
import Derived.Test.YtcelmhaoipbdiaaGreatVmS
namespace Go.Vm
set_option linter.all false
def VO.names:VO→List Nat
 |.obj id _ | .box id _ | .uB id _ _=>[id]
 |.grow _ id _=>[id]
 |.lit (some f) _ _ _ _=>[f]
 |.app f _ _ _ _ _=>[f]
 |.uA f _ _ _ _ _=>[f]
 |.tz f _=>[f]
 |.call _ _ _ reg=>Dl reg
 |.own _ _ _ id _=>[id]
 |.sL _ _ id=>[id]
 |_=>[]
def BN:List Operand→List (Sh×bA)→Bool
 |[],[]=>true
 |y::ys,(_,x)::xs=>bZ y x&&BN ys xs
 |_,_=>false
def Dp:List Operand→List (Sh×Sh×bA)→Bool
 |[],[]=>true
 |y::ys,(_,_,x)::xs=>bZ y x&&Dp ys xs
 |_,_=>false
theorem Ql:∀{ys:List Operand} {xs:List (Sh×Sh×bA)},Dp ys xs=true→xs.length=ys.length∧∀(i:Nat) rs sh x y,xs[i]?=some (rs,sh,x)→ys[i]?=some y→bZ y x=true
 |[],[],_=>by simp
 |[],_::_,h=>by simp[Dp]at h
 |_::_,[],h=>by simp[Dp]at h
 |y::ys,(rs,sh,x)::xs,h=>by
  simp only[Dp,b8]at h;obtain⟨p,q⟩:=Ql h.2;refine⟨by simp[p],fun i zX z7 x' y' hx hy=>?_⟩
  cases i with
  |zero=>simp at hx hy;obtain⟨_,_,rfl⟩:=hx;subst hy;exact h.1
  |succ i=>exact q i zX z7 x' y' (by simpa using hx) (by simpa using hy)
def Fj:List Operand→List bA→Bool
 |[],[]=>true
 |y::ys,x::xs=>bZ y x&&Fj ys xs
 |_,_=>false
def Lt:Option Operand→Option bA→Bool
 |none,none=>true
 |some y,some x=>bZ y x
 |_,_=>false
def Fk(P:Program)(t:TypeId)(cells:List V):Bool :=
 match (P.info? t).bind (·.zero) with
 |some z=>vH z.cells.toList cells
 |none=>false
def Dq(P:Program)(t:TypeId)(n:Nat):Bool :=
 match P.underlying t with
 |some (.slice e)=>match P.info? e with
  |some i=>match i.zero with
   |some z=>i.size==n&&z.cells.size==n&&Nat.ble i.bytes 32768&&Nat.blt 0 n
   |none=>false
  |none=>false
 |_=>false
def Qm(P:Program)(t:TypeId)(mx:Nat):Bool :=
 match P.underlying t with
 |some (.slice e)=>match P.info? e with
  |some i=>Nat.ble mx 140737488355328&&Nat.ble (mx*i.bytes) 140737488355328
  |none=>false
 |_=>false
def Lu(P:Program)(t:TypeId)(ag:Bool)(ks:List Nat):Bool :=
 match P.underlying t with
 |some (.map kt _)=>qR P 100 kt==some ks&&l9 P kt==some ag&&fw P kt==some ks.length
 |_=>false
theorem XJ{P:Program}{t:TypeId}{ag:Bool}{ks:List Nat}(h:Lu P t ag ks=true):∃kt et,P.underlying t=some (.map kt et)∧yE P kt ag ks:=by
 unfold Lu at h;split at h
 ·rename_i kt et hu
  simp only[b8,eg]at h;exact⟨kt,et,hu,⟨h.1.1,h.1.2,h.2⟩⟩
 ·cases h
def XK(P:Program)(t:TypeId)(zero:V):Bool :=
 match P.underlying t with
 |some (.map _ et)=>Qn P et zero
 |_=>false
structure Ps where
 sh:List (Nat×Nat)
 pk:Pk
structure xc(P:Program)(T:Pk)(ps:Ps):Prop where
 sh:∀f k,look f ps.sh=some k→H7 P k f
 pk:∀p∈ps.pk,p∈T
def Qo(P:Program)(ps:Ps)(o:Oper)(vo:VO):Bool :=
 match vo,o.op with
 |.mv x,.move y=>bZ y x
 |.mv x,.assign y=>bZ y x
 |.pick c a b,.pick c' a' b'=>bZ c' c&&bZ a' a&&bZ b' b
 |.obj _ cells,.alloc t=>Fk P t cells
 |.box _ x,.box _ y=>bZ y x
 |.vr _ x,.box _ y=>bZ y x
 |.vt _ zero,.alloc t=>Fk P t zero
 |.vu,.makeMap _ none=>true
 |.wM ag ks zero ok x k,.lookup t p q XL=>Lu P t ag ks&&XK P t zero&&ok==XL&&bZ p x&&bZ q k
 |.vv ag ks _ x k y,.mapUpdate t p q r=>o.dst.isNone&&Lu P t ag ks&&bZ p x&&bZ q k&&bZ r y
 |.build zero qs,.build t ps=>Fk P t zero&&(match placeOf P t with|some pl=>Db pl ps.toList qs|none=>false)
 |.lit _ sh zero len qs,.buildSlice t n ps=>Dq P t sh.length&&len==n&&Nat.blt 0 len&&Nat.ble (len*sh.length) 16777216&&Dd len ps.toList qs &&
  (match P.underlying t with|some (.slice e)=>(match (P.info? e).bind (·.zero) with|some z=>vM z.cells.toList sh zero|none=>false)|_=>false)
 |.lit none sh zero len [],.makeSlice t y z=>Dq P t sh.length&&Nat.ble len 65536&&bZ y (.c (.int .i64 len))&&bZ z (.c (.int .i64 len)) &&
  (match P.underlying t with|some (.slice e)=>(match (P.info? e).bind (·.zero) with|some z=>vM z.cells.toList sh zero|none=>false)|_=>false)
 |.load _ sz x,.load t y=>sR P t sz&&bZ y x
 |.store _ sh x z,.store t y u=>o.dst.isNone&&fw P t==some sh.length&&bZ y x&&bZ u z
 |.uz x,.nilCheck y=>bZ y x
 |.bin op x y,.binOp xd _ p q _=>decide (op=xd)&&bZ p x&&bZ q y
 |.beq neg x y,.binOp xd t p q _=>decide (xd=if neg then .neq else .eql)&&(match P.underlying t with|some .bool=>true|_=>false)&&bZ p x&&bZ q y
 |.gA neg ks x y,.binOp xd t p q _=>decide (xd=if neg then .neq else .eql)&&qR P 100 t==some ks&&l9 P t==some true && !P.eqGuardType P.depth t&&fw P t==some ks.length&&bZ p x&&bZ q y
 |.un op x,.unOp xd _ y=>decide (op=xd)&&bZ y x
 |.conv k x,.convert s t y=>(P.underlying s).isSome&&(match P.underlying t with|some (.int k')=>decide (k'=k)|_=>false)&&bZ y x
 |.tA off x,.fieldAddr s y fi=>bZ y x&&(match P.underlying s with
  |some (.struct fs)=>(match fs[fi]? with|some f=>f.offset==off&&(match fw P f.type with|some n=>n != 0|none=>false)|none=>false)
  |_=>false)
 |.oJ (some n) sz x i,.indexAddr t y j=>(bZ y x || PG ps.pk y x)&&bZ j i&&(match P.underlying t with|some (.array len e)=>len==n&&fw P e==some sz|_=>false)
 |.oJ none sz x i,.indexAddr t y j=>bZ y x&&bZ j i&&(match P.underlying t with|some (.slice e)=>fw P e==some sz|_=>false)
 |.idx n sz ag x i,.index t y j=>bZ y x&&bZ j i&&(match P.underlying t with|some (.array len e)=>len==n&&fw P e==some sz&&sR P e (bif ag then some sz else none)|_=>false)
 |.field off sz x,.field t y fi=>bZ y x&&(match P.underlying t with
  |some (.struct fs)=>(match fs[fi]? with|some f=>f.offset==off&&sR P f.type sz|none=>false)
  |_=>false)
 |.len x,.call ⟨.builtin .len,args,ts⟩=>(match args.toList with | [y]=>bZ y x|_=>false)&&(match ts[0]? with|some t=>(match P.underlying t with|some (.slice _)=>true|_=>false)|none=>false)
 |.vz x,.call ⟨.builtin .len,args,ts⟩=>(match args.toList with | [y]=>bZ y x|_=>false)&&(match ts[0]? with|some t=>(match P.underlying t with|some .string=>true|_=>false)|none=>false)
 |.app _ _ sh mx x y,.call ⟨.builtin .append,args,ts⟩=>(match args.toList with | [p,q]=>bZ p x&&bZ q y|_=>false)&&(match ts.toList with | [t,u]=>t==u&&Dq P t sh.length&&Qm P t mx|_=>false)
 |.uA _ _ _ sh x y,.call ⟨.builtin .append,args,ts⟩=>(match args.toList with | [p,q]=>bZ p x&&bZ q y|_=>false)&&(match ts.toList with | [t,u]=>t==u&&Dq P t sh.length|_=>false)
 |.ext x i,.extract y j=>bZ y x&&i==j
 |.call _ f args reg,.call ⟨.value g,as,_⟩=>bZ g f&&BN as.toList args&&inj reg
 |.grow f _ x,.call ⟨.value g,as,_⟩=>look f ps.sh==some 2&&jA f==f&&bZ g (.c (.fn f []))&&(match as.toList with | [p,q]=>bZ p (.c .bU)&&bZ q x|_=>false)
 |.wN x,.call ⟨.builtin .cap,args,ts⟩=>(match args.toList with | [y]=>bZ y x|_=>false)&&(match ts[0]? with|some t=>(match P.underlying t with|some (.slice _)=>true|_=>false)|none=>false)
 |.vw _ _ x y,.call ⟨.builtin .copy,args,ts⟩=>(match args.toList with | [p,q]=>bZ p x&&bZ q y|_=>false)&&(match ts.toList with | [t,_]=>(match P.underlying t with|some (.slice e)=>fw P e==some 1|_=>false)|_=>false)
 |.vx x,.call ⟨.builtin .clear,args,ts⟩=>(match args.toList with | [p]=>bZ p x|_=>false)&&(match ts.toList with | [t]=>(match P.underlying t with|some (.slice e)=>(match P.info? e with|some ie=>(match ie.zero with|some (.int .i64 0)=>true|_=>false)|none=>false)|_=>false)|_=>false)
 |.wP k f _ x,.call ⟨.value g,as,_⟩=>look f ps.sh==some k&&k != 2&&jA f==f&&bZ g (.c (.fn f []))&&(match as.toList with | [q]=>bZ q x|_=>false)
 |.own f args _ _ _,.call ⟨.value g,as,_⟩=>bZ g f&&Dp as.toList args
 |.arr n sz x,.slice t y none none none=>bZ y x&&(match P.underlying t with|some (.array k e)=>k==n&&fw P e==some sz|_=>false)
 |.sL f args _,.call ⟨.value g,as,_⟩=>bZ g f&&BN as.toList args&&o.dst.isSome
 |.sJ f args,.call ⟨.value g,as,_⟩=>bZ g f&&BN as.toList args
 |.uB _ zero x,.makeSlice t y z=>bZ y x&&bZ z x&&Dq P t zero.length&&(match P.underlying t with|some (.slice e)=>Fk P e zero|_=>false)
 |.wQ sz x lo hi,.slice t y l h none=>bZ y x&&Lt l lo&&Lt h hi&&(match P.underlying t with|some (.slice e)=>fw P e==some sz|_=>false)
 |.vB mx x y z,.call ⟨.builtin b,args,_⟩=>decide (b=if mx then .max else .min)&&(match args.toList with | [p,q,r]=>bZ p x&&bZ q y&&bZ r z|_=>false)
 |.mm mx x y,.call ⟨.builtin b,args,_⟩=>decide (b=if mx then .max else .min)&&(match args.toList with | [p,q]=>bZ p x&&bZ q y|_=>false)
 |.wR f cap,.makeFunc (.func g) first zP=>jA f==g&&first.isEmpty&&Fj zP.toList cap
 |.sK f args _,.call ⟨.value g,as,_⟩=>bZ g f&&Dp as.toList args
 |.zL _,.buildSlice t n ps=>n==0&&ps.isEmpty&&(match P.underlying t with|some (.slice e)=>(fw P e).isSome|_=>false)
 |.wO neg x,.binOp op t p q _=>decide (op=if neg then .neq else .eql)&&(match P.underlying t with|some (.slice _)=>true|_=>false)&&bZ p x&&bZ q (.c .bU)
 |.tz _ x,.load t y=>sR P t none&&bZ y x
 |.vy _ x z,.store t y u=>o.dst.isNone&&fw P t==some 1&&bZ y x&&bZ u z
 |_,_=>false
theorem H8:∀{ys:List Operand} {xs:List (Sh×bA)},BN ys xs=true→xs.length=ys.length∧∀(i:Nat) sh x y,xs[i]?=some (sh,x)→ys[i]?=some y→bZ y x=true
 |[],[],_=>by simp
 |[],_::_,h=>by simp[BN]at h
 |_::_,[],h=>by simp[BN]at h
 |y::ys,(sh,x)::xs,h=>by
  simp only[BN,b8]at h;obtain⟨p,q⟩:=H8 h.2;refine⟨by simp[p],fun i z7 x' y' hx hy=>?_⟩
  cases i with
  |zero=>simp at hx hy;obtain⟨_,rfl⟩:=hx;subst hy;exact h.1
  |succ i=>exact q i z7 x' y' (by simpa using hx) (by simpa using hy)
theorem XM:∀{ys:List Operand} {xs:List bA},Fj ys xs=true→xs.length=ys.length∧∀(i:Nat) x y,xs[i]?=some x→ys[i]?=some y→bZ y x=true
 |[],[],_=>by simp
 |[],_::_,h=>by simp[Fj]at h
 |_::_,[],h=>by simp[Fj]at h
 |y::ys,x::xs,h=>by
  simp only[Fj,b8]at h;obtain⟨p,q⟩:=XM h.2;refine⟨by simp[p],fun i x' y' hx hy=>?_⟩
  cases i with
  |zero=>simp at hx hy;subst hx;subst hy;exact h.1
  |succ i=>exact q i x' y' (by simpa using hx) (by simpa using hy)
theorem Lw{P:Program}{t:TypeId}{cells:List V}(h:Fk P t cells=true):∃i z,P.info? t=some i∧i.zero=some z∧vH z.cells.toList cells=true:=by
 unfold Fk at h;cases hi:P.info? t with
 |none=>simp[hi]at h
 |some i =>
  cases hz:i.zero with
  |none=>simp[hi,hz]at h
  |some z=>simp[hi,hz]at h;exact⟨i,z,rfl,hz,h⟩
theorem ajF{P:Program}{t e:TypeId}{mx:Nat}(h:Qm P t mx=true)(he:P.underlying t=some (.slice e)):mx≤140737488355328∧∀i,P.info? e=some i→mx*i.bytes≤140737488355328:=by
 unfold Qm at h;rw[he]at h;simp only at h;split at h
 ·rename_i i hi
  simp only[b8]at h;refine⟨jk h.1,fun i' qP=>?_⟩;rw[hi]at qP;cases qP;exact jk h.2
 ·cases h
theorem H9{P:Program}{t:TypeId}{n:Nat}(h:Dq P t n=true):∃e i z,P.underlying t=some (.slice e)∧P.info? e=some i∧i.zero=some z∧i.size=n∧z.cells.size=n∧i.bytes≤32768∧0<n:=by
 unfold Dq at h;split at h
 ·rename_i e hu
  split at h
  ·rename_i i hi
   split at h
   ·rename_i z hz
    simp only[b8,eg]at h;exact⟨e,i,z,hu,hi,hz,h.1.1.1,h.1.1.2,jk h.1.2,jk h.2⟩
   ·cases h
  ·cases h
 ·cases h
section
variable {P:Program} {E:Entry} {g g':Gh} {S S':St} {a:Act} {w w':World}
theorem ajG{ps:Ps}(iF:xc P E.T ps){o:Oper}{vo:VO}{C:bD}(bz:Qo P ps o vo=true)
  (hC:∀f args G r G',C f args G=some (r,G')→vN P E.T f args G r G')
  (hn:∀n∈vo.names,S.fb n) (Ab:∀id x v,vo=.box id x→S.ev x=some v→v.cA id=false)
  (hR:R E g S a w) (hd:∀d,o.dst=some d→d<E.nt) (ah:VO.run C o.dst S vo=some S'):ct P E o S S' a w:=by
 unfold Qo at bz;split at bz
 ·rename_i x y ho;exact W4 (.inl ho) bz hR hd ah
 ·rename_i x y ho;exact W4 (.inr ho) bz hR hd ah
 ·rename_i c p q c' p' q' ho
  simp only[b8]at bz;exact ais ho bz.1.1 bz.1.2 bz.2 hR hd ah
 ·rename_i id cells t ho
  obtain⟨i,z,h1,h2,h3⟩:=Lw bz;exact aiS ho h1 h2 h3 (hn id (by simp[VO.names])) hR hd ah
 ·rename_i id x t y ho
  exact aiT ho bz (hn id (by simp[VO.names])) (fun v hv=>Ab id x v rfl hv) hR hd ah
 ·rename_i sh x t y ho
  exact ajh ho bz hR hd ah
 ·rename_i sh zero t ho
  obtain⟨i,z,h1,h2,h3⟩:=Lw bz;exact ajH ho h1 h2 h3 hR hd ah
 ·rename_i t ho
  exact ajI ho hR hd ah
 ·rename_i ag ks zero ok x k t p q XL ho
  simp only[b8,eg]at bz;obtain⟨⟨⟨⟨h1,h2⟩,rfl⟩,h4⟩,h5⟩:=bz;obtain⟨kt,et,hu,hk⟩:=XJ h1;simp only[XK,hu]at h2;exact ajJ ho hu hk h2 h4 h5 hR hd ah
 ·rename_i ag ks sh x k y t p q r ho
  simp only[b8,Hx]at bz;obtain⟨⟨⟨⟨h1,h2⟩,h3⟩,h4⟩,h5⟩:=bz;obtain⟨kt,et,hu,hk⟩:=XJ h2;exact ajK ho h1 hu hk h3 h4 h5 hR (by rw[h1]at ah;exact h1 ▸ ah)
 ·rename_i zero qs t ps ho
  simp only[b8]at bz;obtain⟨i,z,h1,h2,h3⟩:=Lw bz.1;have h4:=bz.2;split at h4
  ·rename_i pl lj;exact ai4 ho h1 h2 lj h3 h4 hR hd ah
  ·cases h4
 ·rename_i tok sh zero len qs t n ps ho
  simp only[b8,eg]at bz;obtain⟨⟨⟨⟨⟨h1,h2⟩,h3⟩,h4⟩,h5⟩,h6⟩:=bz;subst h2;obtain⟨e,i,z,q1,q2,q3,q4,q5,q6,q7⟩:=H9 h1;simp only[q1,q2,q3,K0]at h6;exact ai7 ho q1 q2 q3 q4 q5 q7 (jk h3) (jk h4) h6 h5 (fun f hf=>hn f (by subst hf;simp[VO.names])) hR hd ah
 ·rename_i sh zero len t y z ho
  simp only[b8]at bz;obtain⟨⟨⟨⟨h1,h2⟩,h3⟩,h4⟩,h6⟩:=bz;obtain⟨e,i,z,q1,q2,q3,q4,q5,q6,q7⟩:=H9 h1;simp only[q1,q2,q3,K0]at h6;exact ajb ho q1 q2 q3 q4 q5 q6 q7 (jk h2) h6 h3 h4 hR hd ah
 ·rename_i root sz x t y ho
  simp only[b8]at bz;exact aiP ho bz.1 bz.2 hR hd ah
 ·rename_i root sh x z t y u ho
  simp only[b8,eg,Hx]at bz;exact ajg ho bz.1.1.1 bz.1.1.2 bz.1.2 bz.2 hR (by rw[bz.1.1.1]at ah;exact bz.1.1.1 ▸ ah)
 ·rename_i x y ho;exact aiC ho bz hR hd ah
 ·rename_i op x y xd t p q t' ho
  simp only[b8,kA]at bz;obtain⟨⟨rfl,h1⟩,h2⟩:=bz;exact aiz ho h1 h2 hR hd ah
 ·rename_i neg x y xd t p q t' ho
  simp only[b8,kA]at bz;obtain⟨⟨⟨rfl,h0⟩,h1⟩,h2⟩:=bz;split at h0
  ·rename_i hu;exact aiy ho hu h1 h2 hR hd ah
  ·cases h0
 ·rename_i neg ks x y xd t p q t' ho
  simp only[b8,kA,eg,vm]at bz;obtain⟨⟨⟨⟨⟨⟨rfl,h0⟩,h1⟩,h2⟩,h3⟩,h4⟩,h5⟩:=bz;exact ajL ho h0 h1 h2 h3 h4 h5 hR hd ah
 ·rename_i op x xd t y ho
  simp only[b8,kA]at bz;obtain⟨rfl,h1⟩:=bz;exact aiA ho h1 hR hd ah
 ·rename_i k x s t y ho
  simp only[b8,PD]at bz;obtain⟨⟨⟨d,h0⟩,h1⟩,h2⟩:=bz;split at h1
  ·rename_i k' hu
   have:=ER h1;subst this;exact aiB ho h0 hu h2 hR hd ah
  ·cases h1
 ·rename_i off x s y fi ho
  simp only[b8]at bz;obtain⟨h0,h1⟩:=bz;split at h1
  ·rename_i fs hu
   split at h1
   ·rename_i f hf
    simp only[b8,eg]at h1;obtain⟨h2,h3⟩:=h1;split at h3
    ·rename_i n eH;exact aiD ho hu hf eH (by simpa using h3) h2 h0 hR hd ah
    ·cases h3
   ·cases h1
  ·cases h1
 ·rename_i n sz x i t y j ho
  simp only[b8]at bz;obtain⟨⟨h0,h1⟩,h2⟩:=bz;split at h2
  ·rename_i len e hu
   simp only[b8,eg]at h2;obtain⟨rfl,h3⟩:=h2;refine aiE ho hu h3 hR (fun v hv=>?_) h1 hd ah;rcases CI _ _ ▸ h0 with h0|h0
   ·exact c9 hR h0 hv
   ·exact aim iF.pk hR h0 hv
  ·cases h2
 ·rename_i sz x i t y j ho
  simp only[b8]at bz;obtain⟨⟨h0,h1⟩,h2⟩:=bz;split at h2
  ·rename_i e hu
   exact aiF ho hu (eq_of_beq h2) h0 h1 hR hd ah
  ·cases h2
 ·rename_i n sz ag x i t y j ho
  simp only[b8]at bz;obtain⟨⟨h0,h1⟩,h2⟩:=bz;split at h2
  ·rename_i len e hu
   simp only[b8,eg]at h2;obtain⟨⟨rfl,h3⟩,h4⟩:=h2;exact aiR ho hu h4 h3 h0 h1 hR hd ah
  ·cases h2
 ·rename_i off sz x t y fi ho
  simp only[b8]at bz;obtain⟨h0,h1⟩:=bz;split at h1
  ·rename_i fs hu
   split at h1
   ·rename_i f hf
    simp only[b8,eg]at h1;exact aiQ ho hu hf h1.1 h1.2 h0 hR hd ah
   ·cases h1
  ·cases h1
 ·rename_i x args ts ho
  simp only[b8]at bz;obtain⟨h0,h1⟩:=bz;split at h0
  ·rename_i y hy
   split at h1
   ·rename_i t ht
    split at h1
    ·rename_i e hu
     have:args = #[y]:=by apply nF;simpa using hy
     subst this;exact aiG ho ht hu h0 hR hd ah
    ·cases h1
   ·cases h1
  ·cases h0
 ·rename_i x args ts ho
  simp only[b8]at bz;obtain⟨h0,h1⟩:=bz;split at h0
  ·rename_i y hy
   split at h1
   ·rename_i t ht
    split at h1
    ·rename_i hu
     have:args = #[y]:=by apply nF;simpa using hy
     subst this;exact aiI ho ht hu h0 hR hd ah
    ·cases h1
   ·cases h1
  ·cases h0
 ·rename_i cn src sh mx x y args ts ho
  simp only[b8]at bz;obtain⟨h0,h1⟩:=bz;split at h0
  ·rename_i p q xe
   split at h1
   ·rename_i t u Qp
    simp only[b8,eg]at h1 h0;obtain⟨⟨rfl,h2⟩,h5⟩:=h1;obtain⟨e,i,z,q1,q2,q3,q4,q5,q6,q7⟩:=H9 h2;have e1:args = #[p,q]:=by apply nF;simpa using xe
    have e2:ts = #[t,t]:=by apply nF;simpa using Qp
    subst e1;subst e2;exact aiZ (ajF h5 q1) ho q1 ⟨⟨i,z,q2,q3,q4,q5,q6⟩,q7⟩ h0.1 h0.2 (hn cn (by simp[VO.names])) hR hd ah
   ·cases h1
  ·cases h0
 ·rename_i nw src oy sh x y args ts ho
  simp only[b8]at bz;obtain⟨h0,h1⟩:=bz;split at h0
  ·rename_i p q xe
   split at h1
   ·rename_i t u Qp
    simp only[b8,eg]at h1 h0;obtain⟨rfl,h2⟩:=h1;obtain⟨e,i,z,q1,q2,q3,q4,q5,q6,q7⟩:=H9 h2;have e1:args = #[p,q]:=by apply nF;simpa using xe
    have e2:ts = #[t,t]:=by apply nF;simpa using Qp
    subst e1;subst e2;exact ajM ho q1 ⟨⟨i,z,q2,q3,q4,q5,q6⟩,q7⟩ h0.1 h0.2 (hn nw (by simp[VO.names])) hR hd ah
   ·cases h1
  ·cases h0
 ·rename_i x i y j ho
  simp only[b8,eg]at bz;obtain⟨h0,rfl⟩:=bz;exact aiJ ho h0 hR hd ah
 ·rename_i alone f args reg gg as ts ho
  simp only[b8]at bz;have vP:∀p f,look p reg=some f→S.fb f:=fun p f hp=>hn f (by
   simp only[VO.names,Dl];exact nc.2 ⟨(p,f),vO hp,rfl⟩)
  cases alone
  ·exact XD ho bz.1.1 (H8 bz.1.2) hC bz.2 vP hR hd ah
  ·exact ajC ho bz.1.1 (H8 bz.1.2) hC bz.2 vP hR hd ah
 ·rename_i f id x gg as ts ho
  simp only[b8,eg]at bz;obtain⟨⟨⟨h0,sY⟩,h1⟩,h2⟩:=bz;split at h2
  ·rename_i p q hq
   simp only[b8]at h2;have e:as = #[p,q]:=by apply nF;simpa using hq
   subst e;refine ajN ho ?_ h2.1 h2.2 (iF.sh f 2 h0) (hn id (by simp[VO.names])) hR hd ah
   have hr:=c9 (v:=.fn f []) hR h1 rfl;generalize a.eval gg=y at hr;cases hr with
   |plain h _=>cases h
   |fn _ _ xs hl hx =>
    have:xs = #[]:=by
     apply ED;simpa using hl.symm
    rw[this,sY]
  ·cases h2
 ·rename_i x args ts ho
  simp only[b8]at bz;obtain⟨h0,h1⟩:=bz;split at h0
  ·rename_i y hy
   have e:args = #[y]:=by apply nF;simpa using hy
   subst e;split at h1
   ·rename_i t ht
    split at h1
    ·rename_i e hu;exact aiH ho ht hu h0 hR hd ah
    ·cases h1
   ·cases h1
  ·cases h0
 ·rename_i id src x y args ts ho
  simp only[b8]at bz;obtain⟨h0,h1⟩:=bz;split at h0
  ·rename_i p q xe
   simp only[b8]at h0;have e:args = #[p,q]:=by apply nF;simpa using xe
   subst e;split at h1
   ·rename_i t t2 ht
    have e2:ts = #[t,t2]:=by apply nF;simpa using ht
    subst e2;split at h1
    ·rename_i e hu;exact ajO ho hu (eq_of_beq h1) h0.1 h0.2 hR hd ah
    ·cases h1
   ·cases h1
  ·cases h0
 ·rename_i x args ts ho
  simp only[b8]at bz;obtain⟨h0,h1⟩:=bz;split at h0
  ·rename_i p xe
   have e:args = #[p]:=by apply nF;simpa using xe
   subst e;split at h1
   ·rename_i t ht
    have e2:ts = #[t]:=by apply nF;simpa using ht
    subst e2;split at h1
    ·rename_i e hu
     split at h1
     ·rename_i ie HS
      split at h1
      ·rename_i hz;exact ajP ho hu HS hz h0 hR hd ah
      ·cases h1
     ·cases h1
    ·cases h1
   ·cases h1
  ·cases h0
 ·rename_i k f _ x gg as ts ho
  simp only[b8,eg,bne_iff_ne,ne_eq]at bz;obtain⟨⟨⟨⟨h0,oT⟩,sY⟩,h1⟩,h2⟩:=bz;split at h2
  ·rename_i q hq
   have e:as = #[q]:=by apply nF;simpa using hq
   subst e;have hmk:Qq P k f:=by
    have:=iF.sh f k h0;unfold H7 at this;split at this
    ·exact absurd rfl oT
    ·exact this
   refine ajR ho ?_ h2 hmk hR hd (by simpa only[VO.run] using ah)
   have hr:=c9 (v:=.fn f []) hR h1 rfl;generalize a.eval gg=y at hr;cases hr with
   |plain h _=>cases h
   |fn _ _ xs hl hx =>
    have:xs = #[]:=by
     apply ED;simpa using hl.symm
    rw[this,sY]
  ·cases h2
 ·rename_i f args ids id pos gg as ts ho
  simp only[b8]at bz;exact Qr ho bz.1 (Ql bz.2) hC (hn id (by simp[VO.names])) hR hd ah
 ·rename_i n sz x t y ho
  simp only[b8]at bz;obtain⟨h1,h2⟩:=bz;split at h2
  ·rename_i k e hu
   simp only[b8,eg]at h2;obtain⟨rfl,h3⟩:=h2;exact aju ho hu h3 h1 hR hd ah
  ·cases h2
 ·rename_i f args id gg as ts ho
  simp only[b8]at bz;exact ajS ho bz.1.1 (H8 bz.1.2) hC (hn id (by simp[VO.names])) bz.2 hR hd ah
 ·rename_i f args gg as ts ho
  simp only[b8]at bz;exact XD (reg:=[]) ho bz.1 (H8 bz.2) hC rfl (by intro p f h;cases h) hR hd (XI ah)
 ·rename_i id zero x t y z ho
  simp only[b8]at bz;obtain⟨⟨⟨h0,h1⟩,h2⟩,h3⟩:=bz;obtain⟨e,i,z,q1,q2,q3,q4,q5,q6,q7⟩:=H9 h2;simp only[q1]at h3;obtain⟨i',z',r1,r2,r3⟩:=Lw h3;rw[q2]at r1;cases r1;rw[q3]at r2;cases r2;exact aja ho q1 q2 q3 q4 (by omega) q6 r3 h0 h1 (hn id (by simp[VO.names])) hR hd ah
 ·rename_i sz x lo hi t y l h ho
  simp only[b8]at bz;obtain⟨⟨⟨h0,h1⟩,h2⟩,h3⟩:=bz;split at h3
  ·rename_i e hu
   refine ajv ho hu (eq_of_beq h3) h0 ?_ ?_ hR hd ah
   ·unfold Lt at h1;split at h1<;>first|trivial|exact h1|cases h1
   ·unfold Lt at h2;split at h2<;>first|trivial|exact h2|cases h2
  ·cases h3
 ·rename_i mx x y z b args ts ho
  simp only[b8,kA]at bz;obtain⟨rfl,h1⟩:=bz;split at h1
  ·rename_i p q r xe
   simp only[b8]at h1;have e1:args = #[p,q,r]:=by apply nF;simpa using xe
   subst e1;exact aiL ho h1.1.1 h1.1.2 h1.2 hR hd ah
  ·cases h1
 ·rename_i mx x y b args ts ho
  simp only[b8,kA]at bz;obtain⟨rfl,h1⟩:=bz;split at h1
  ·rename_i p q xe
   simp only[b8]at h1;have e1:args = #[p,q]:=by apply nF;simpa using xe
   subst e1;exact aiK ho h1.1 h1.2 hR hd ah
  ·cases h1
 ·rename_i f cap gg first zP ho
  simp only[b8,eg,Wx]at bz;obtain⟨⟨rfl,rfl⟩,h2⟩:=bz;obtain⟨q1,q2⟩:=XM h2;exact aiM ho ⟨by simpa using q1,fun i x y hx hy=>q2 i x y hx (by simpa using hy)⟩ hR hd ah
 ·rename_i f args ids gg as ts ho
  simp only[b8]at bz;exact ajT ho bz.1 (Ql bz.2) hC hR hd ah
 ·rename_i n t m ps ho
  simp only[b8,eg,Wx]at bz;obtain⟨⟨rfl,rfl⟩,h⟩:=bz;split at h
  ·rename_i e hu
   obtain⟨k,hk⟩:=PD.1 h;exact aji ho hu hk hR hd ah
  ·cases h
 ·rename_i neg x op t p q ty ho
  simp only[b8,kA]at bz;obtain⟨⟨⟨h1,h2⟩,h3⟩,h4⟩:=bz;split at h2
  ·rename_i e hu
   exact ajj ho h1 hu h3 h4 hR hd ah
  ·cases h2
 ·rename_i cn x t y ho
  simp only[b8]at bz;exact ajk ho bz.1 bz.2 (hn cn (by simp[VO.names])) hR hd ah
 ·rename_i cn x z t y u ho
  simp only[b8,eg,Hx]at bz;exact ajq ho bz.1.1.1 bz.1.1.2 bz.1.2 bz.2 hR (by rw[bz.1.1.1]at ah;exact bz.1.1.1 ▸ ah)
 ·cases bz
end
end Go.Vm
