/- The value machine, 10: what an operation may be, and that each does in the model what it does here. -/
import Derived.Test.YtmpikpodpgnjhaaGreatVmU
import Derived.Test.YtmpikpodpgnjhaaGreatVmS
namespace Go.Vm
set_option linter.all false
def VO.names:VO→List Nat
 |.obj id _ | .box id _ | .qL id _ _=>[id]
 |.grow _ id _=>[id]
 |.lit (some f) _ _ _ _=>[f]
 |.app f _ _ _ _ _=>[f]
 |.qK f _ _ _ _=>[f]
 |.qJ f _=>[f]
 |.call _ _ _ reg=>yI reg
 |.own _ _ id _=>[id]
 |.pe _ _ id=>[id]
 |_=>[]
def vK:List Operand→List (Sh×bj)→Bool
 |[],[]=>true
 |y::ys,(_,x)::xs=>bJ y x&&vK ys xs
 |_,_=>false
def Aw:List Operand→List (Sh×Sh×bj)→Bool
 |[],[]=>true
 |y::ys,(_,_,x)::xs=>bJ y x&&Aw ys xs
 |_,_=>false
theorem OJ:∀{ys:List Operand} {xs:List (Sh×Sh×bj)},Aw ys xs=true→xs.length=ys.length∧∀(i:Nat) rs sh x y,xs[i]?=some (rs,sh,x)→ys[i]?=some y→bJ y x=true
 |[],[],_=>by simp
 |[],_::_,h=>by simp[Aw]at h
 |_::_,[],h=>by simp[Aw]at h
 |y::ys,(rs,sh,x)::xs,h=>by
  simp only[Aw,Bool.and_eq_true]at h;obtain⟨p,q⟩:=OJ h.2;refine⟨by simp[p],fun i vC vI x' y' hx hy=>?_⟩
  cases i with
  |zero=>simp at hx hy;obtain⟨_,_,rfl⟩:=hx;subst hy;exact h.1
  |succ i=>exact q i vC vI x' y' (by simpa using hx) (by simpa using hy)
def Ax:List Operand→List bj→Bool
 |[],[]=>true
 |y::ys,x::xs=>bJ y x&&Ax ys xs
 |_,_=>false
def E4:Option Operand→Option bj→Bool
 |none,none=>true
 |some y,some x=>bJ y x
 |_,_=>false
def Ay(P:Program)(t:TypeId)(cells:List V):Bool :=
 match (P.info? t).bind (·.zero) with
 |some z=>sj z.cells.toList cells
 |none=>false
def yM(P:Program)(t:TypeId)(n:Nat):Bool :=
 match P.underlying t with
 |some (.slice e)=>match P.info? e with
  |some i=>match i.zero with
   |some z=>i.size==n&&z.cells.size==n&&Nat.ble i.bytes 32768&&Nat.blt 0 n
   |none=>false
  |none=>false
 |_=>false
def IX(P:Program)(t:TypeId)(mx:Nat):Bool :=
 match P.underlying t with
 |some (.slice e)=>match P.info? e with
  |some i=>Nat.ble mx 140737488355328&&Nat.ble (mx*i.bytes) 140737488355328
  |none=>false
 |_=>false
def E5(P:Program)(t:TypeId)(ag:Bool)(ks:List Nat):Bool :=
 match P.underlying t with
 |some (.map kt _)=>oh P 100 kt==some ks&&jU P kt==some ag&&eN P kt==some ks.length
 |_=>false
theorem OK{P:Program}{t:TypeId}{ag:Bool}{ks:List Nat}(h:E5 P t ag ks=true):∃kt et,P.underlying t=some (.map kt et)∧uV P kt ag ks:=by
 unfold E5 at h;split at h
 ·rename_i kt et hu
  simp only[Bool.and_eq_true,beq_iff_eq]at h;exact⟨kt,et,hu,⟨h.1.1,h.1.2,h.2⟩⟩
 ·cases h
def OL(P:Program)(t:TypeId)(zero:V):Bool :=
 match P.underlying t with
 |some (.map _ et)=>IY P et zero
 |_=>false
def IZ(P:Program)(ps:List (Nat×Nat))(o:Oper)(vo:VO):Bool :=
 match vo,o.op with
 |.mv x,.move y=>bJ y x
 |.mv x,.assign y=>bJ y x
 |.pick c a b,.pick c' a' b'=>bJ c' c&&bJ a' a&&bJ b' b
 |.obj _ cells,.alloc t=>Ay P t cells
 |.box _ x,.box _ y=>bJ y x
 |.rM _ x,.box _ y=>bJ y x
 |.rP _ zero,.alloc t=>Ay P t zero
 |.rQ,.makeMap _ none=>true
 |.tp ag ks zero ok x k,.lookup t p q OM=>E5 P t ag ks&&OL P t zero&&ok==OM&&bJ p x&&bJ q k
 |.rT ag ks _ x k y,.mapUpdate t p q r=>o.dst.isNone&&E5 P t ag ks&&bJ p x&&bJ q k&&bJ r y
 |.build zero qs,.build t ps=>Ay P t zero&&(match placeOf P t with|some pl=>yz pl ps.toList qs|none=>false)
 |.lit _ sh zero len qs,.buildSlice t n ps=>yM P t sh.length&&len==n&&Nat.blt 0 len&&Nat.ble (len*sh.length) 16777216&&yB len ps.toList qs &&
  (match P.underlying t with|some (.slice e)=>(match (P.info? e).bind (·.zero) with|some z=>sr z.cells.toList sh zero|none=>false)|_=>false)
 |.lit none sh zero len [],.makeSlice t y z=>yM P t sh.length&&Nat.ble len 65536&&bJ y (.c (.int .i64 len))&&bJ z (.c (.int .i64 len)) &&
  (match P.underlying t with|some (.slice e)=>(match (P.info? e).bind (·.zero) with|some z=>sr z.cells.toList sh zero|none=>false)|_=>false)
 |.load _ sz x,.load t y=>pj P t sz&&bJ y x
 |.store _ sh x z,.store t y u=>o.dst.isNone&&eN P t==some sh.length&&bJ y x&&bJ u z
 |.rY x,.nilCheck y=>bJ y x
 |.bin op x y,.binOp tL _ p q _=>decide (op=tL)&&bJ p x&&bJ q y
 |.beq neg x y,.binOp tL t p q _=>decide (tL=if neg then .neq else .eql)&&(match P.underlying t with|some .bool=>true|_=>false)&&bJ p x&&bJ q y
 |.iR neg ks x y,.binOp tL t p q _=>decide (tL=if neg then .neq else .eql)&&oh P 100 t==some ks&&jU P t==some true && !P.eqGuardType P.depth t&&eN P t==some ks.length&&bJ p x&&bJ q y
 |.un op x,.unOp tL _ y=>decide (op=tL)&&bJ y x
 |.conv k x,.convert s t y=>(P.underlying s).isSome&&(match P.underlying t with|some (.int k')=>decide (k'=k)|_=>false)&&bJ y x
 |.r0 off x,.fieldAddr s y fi=>bJ y x&&(match P.underlying s with
  |some (.struct fs)=>(match fs[fi]? with|some f=>f.offset==off&&(match eN P f.type with|some n=>n != 0|none=>false)|none=>false)
  |_=>false)
 |.nA (some n) sz x i,.indexAddr t y j=>bJ y x&&bJ j i&&(match P.underlying t with|some (.array len e)=>len==n&&eN P e==some sz|_=>false)
 |.nA none sz x i,.indexAddr t y j=>bJ y x&&bJ j i&&(match P.underlying t with|some (.slice e)=>eN P e==some sz|_=>false)
 |.idx n sz ag x i,.index t y j=>bJ y x&&bJ j i&&(match P.underlying t with|some (.array len e)=>len==n&&eN P e==some sz&&pj P e (bif ag then some sz else none)|_=>false)
 |.field off sz x,.field t y fi=>bJ y x&&(match P.underlying t with
  |some (.struct fs)=>(match fs[fi]? with|some f=>f.offset==off&&pj P f.type sz|none=>false)
  |_=>false)
 |.len x,.call ⟨.builtin .len,args,ts⟩=>(match args.toList with | [y]=>bJ y x|_=>false)&&(match ts[0]? with|some t=>(match P.underlying t with|some (.slice _)=>true|_=>false)|none=>false)
 |.r7 x,.call ⟨.builtin .len,args,ts⟩=>(match args.toList with | [y]=>bJ y x|_=>false)&&(match ts[0]? with|some t=>(match P.underlying t with|some .string=>true|_=>false)|none=>false)
 |.app _ _ sh mx x y,.call ⟨.builtin .append,args,ts⟩=>(match args.toList with | [p,q]=>bJ p x&&bJ q y|_=>false)&&(match ts.toList with | [t,u]=>t==u&&yM P t sh.length&&IX P t mx|_=>false)
 |.qK _ _ sh x y,.call ⟨.builtin .append,args,ts⟩=>(match args.toList with | [p,q]=>bJ p x&&bJ q y|_=>false)&&(match ts.toList with | [t,u]=>t==u&&yM P t sh.length|_=>false)
 |.ext x i,.extract y j=>bJ y x&&i==j
 |.call _ f args reg,.call ⟨.value g,as,_⟩=>bJ g f&&vK as.toList args&&inj reg
 |.grow f _ x,.call ⟨.value g,as,_⟩=>look f ps==some 2&&bJ g (.c (.fn f []))&&(match as.toList with | [p,q]=>bJ p (.c .bW)&&bJ q x|_=>false)
 |.tq x,.call ⟨.builtin .cap,args,ts⟩=>(match args.toList with | [y]=>bJ y x|_=>false)&&(match ts[0]? with|some t=>(match P.underlying t with|some (.slice _)=>true|_=>false)|none=>false)
 |.rU _ _ x y,.call ⟨.builtin .copy,args,ts⟩=>(match args.toList with | [p,q]=>bJ p x&&bJ q y|_=>false)&&(match ts.toList with | [t,_]=>(match P.underlying t with|some (.slice e)=>eN P e==some 1|_=>false)|_=>false)
 |.tu k f _ x,.call ⟨.value g,as,_⟩=>look f ps==some k&&k != 2&&bJ g (.c (.fn f []))&&(match as.toList with | [q]=>bJ q x|_=>false)
 |.own f args _ _,.call ⟨.value g,as,_⟩=>bJ g f&&vK as.toList args
 |.pe f args _,.call ⟨.value g,as,_⟩=>bJ g f&&vK as.toList args&&o.dst.isSome
 |.pc f args,.call ⟨.value g,as,_⟩=>bJ g f&&vK as.toList args
 |.qL _ zero x,.makeSlice t y z=>bJ y x&&bJ z x&&yM P t zero.length&&(match P.underlying t with|some (.slice e)=>Ay P e zero|_=>false)
 |.tv sz x lo hi,.slice t y l h none=>bJ y x&&E4 l lo&&E4 h hi&&(match P.underlying t with|some (.slice e)=>eN P e==some sz|_=>false)
 |.r9 mx x y z,.call ⟨.builtin b,args,_⟩=>decide (b=if mx then .max else .min)&&(match args.toList with | [p,q,r]=>bJ p x&&bJ q y&&bJ r z|_=>false)
 |.mm mx x y,.call ⟨.builtin b,args,_⟩=>decide (b=if mx then .max else .min)&&(match args.toList with | [p,q]=>bJ p x&&bJ q y|_=>false)
 |.tw f cap,.makeFunc (.func g) first vx=>f==g&&first.isEmpty&&Ax vx.toList cap
 |.pd f args _,.call ⟨.value g,as,_⟩=>bJ g f&&Aw as.toList args
 |.vt _,.buildSlice t n ps=>n==0&&ps.isEmpty&&(match P.underlying t with|some (.slice e)=>(eN P e).isSome|_=>false)
 |.tr neg x,.binOp op t p q _=>decide (op=if neg then .neq else .eql)&&(match P.underlying t with|some (.slice _)=>true|_=>false)&&bJ p x&&bJ q (.c .bW)
 |.qJ _ x,.load t y=>pj P t none&&bJ y x
 |.rW _ x z,.store t y u=>o.dst.isNone&&eN P t==some 1&&bJ y x&&bJ u z
 |_,_=>false
theorem Az:∀{ys:List Operand} {xs:List (Sh×bj)},vK ys xs=true→xs.length=ys.length∧∀(i:Nat) sh x y,xs[i]?=some (sh,x)→ys[i]?=some y→bJ y x=true
 |[],[],_=>by simp
 |[],_::_,h=>by simp[vK]at h
 |_::_,[],h=>by simp[vK]at h
 |y::ys,(sh,x)::xs,h=>by
  simp only[vK,Bool.and_eq_true]at h;obtain⟨p,q⟩:=Az h.2;refine⟨by simp[p],fun i vI x' y' hx hy=>?_⟩
  cases i with
  |zero=>simp at hx hy;obtain⟨_,rfl⟩:=hx;subst hy;exact h.1
  |succ i=>exact q i vI x' y' (by simpa using hx) (by simpa using hy)
theorem ON:∀{ys:List Operand} {xs:List bj},Ax ys xs=true→xs.length=ys.length∧∀(i:Nat) x y,xs[i]?=some x→ys[i]?=some y→bJ y x=true
 |[],[],_=>by simp
 |[],_::_,h=>by simp[Ax]at h
 |_::_,[],h=>by simp[Ax]at h
 |y::ys,x::xs,h=>by
  simp only[Ax,Bool.and_eq_true]at h;obtain⟨p,q⟩:=ON h.2;refine⟨by simp[p],fun i x' y' hx hy=>?_⟩
  cases i with
  |zero=>simp at hx hy;subst hx;subst hy;exact h.1
  |succ i=>exact q i x' y' (by simpa using hx) (by simpa using hy)
theorem E6{P:Program}{t:TypeId}{cells:List V}(h:Ay P t cells=true):∃i z,P.info? t=some i∧i.zero=some z∧sj z.cells.toList cells=true:=by
 unfold Ay at h;cases hi:P.info? t with
 |none=>simp[hi]at h
 |some i =>
  cases hz:i.zero with
  |none=>simp[hi,hz]at h
  |some z=>simp[hi,hz]at h;exact⟨i,z,rfl,hz,h⟩
theorem Zl{P:Program}{t e:TypeId}{mx:Nat}(h:IX P t mx=true)(he:P.underlying t=some (.slice e)):mx≤140737488355328∧∀i,P.info? e=some i→mx*i.bytes≤140737488355328:=by
 unfold IX at h;rw[he]at h;simp only at h;split at h
 ·rename_i i hi
  simp only[Bool.and_eq_true]at h;refine⟨Nat.le_of_ble_eq_true h.1,fun i' py=>?_⟩;rw[hi]at py;cases py;exact Nat.le_of_ble_eq_true h.2
 ·cases h
theorem Cl{P:Program}{t:TypeId}{n:Nat}(h:yM P t n=true):∃e i z,P.underlying t=some (.slice e)∧P.info? e=some i∧i.zero=some z∧i.size=n∧z.cells.size=n∧i.bytes≤32768∧0<n:=by
 unfold yM at h;split at h
 ·rename_i e hu
  split at h
  ·rename_i i hi
   split at h
   ·rename_i z hz
    simp only[Bool.and_eq_true,beq_iff_eq]at h;exact⟨e,i,z,hu,hi,hz,h.1.1.1,h.1.1.2,Nat.le_of_ble_eq_true h.1.2,Nat.le_of_ble_eq_true h.2⟩
   ·cases h
  ·cases h
 ·cases h
section
variable {P:Program} {E:Entry} {g g':Gh} {S S':St} {a:Act} {w w':World}
theorem Zm{ps:List (Nat×Nat)}(iq:∀f k,look f ps=some k→pB P k f){o:Oper}{vo:VO}{C:bm}(bg:IZ P ps o vo=true)
  (hC:∀f args G r G',C f args G=some (r,G')→sx P f args G r G')
  (hn:∀n∈vo.names,S.ez n) (vM:∀id x v,vo=.box id x→S.ev x=some v→v.ca id=false)
  (hR:R E g S a w) (hd:∀d,o.dst=some d→d<E.nt) (ah:VO.run C o.dst S vo=some S'):b0 P E o S S' a w:=by
 unfold IZ at bg;split at bg
 ·rename_i x y ho;exact NV (.inl ho) bg hR hd ah
 ·rename_i x y ho;exact NV (.inr ho) bg hR hd ah
 ·rename_i c p q c' p' q' ho
  simp only[Bool.and_eq_true]at bg;exact X8 ho bg.1.1 bg.1.2 bg.2 hR hd ah
 ·rename_i id cells t ho
  obtain⟨i,z,h1,h2,h3⟩:=E6 bg;exact Yy ho h1 h2 h3 (hn id (by simp[VO.names])) hR hd ah
 ·rename_i id x t y ho
  exact Yz ho bg (hn id (by simp[VO.names])) (fun v hv=>vM id x v rfl hv) hR hd ah
 ·rename_i sh x t y ho
  exact YW ho bg hR hd ah
 ·rename_i sh zero t ho
  obtain⟨i,z,h1,h2,h3⟩:=E6 bg;exact Zn ho h1 h2 h3 hR hd ah
 ·rename_i t ho
  exact Zo ho hR hd ah
 ·rename_i ag ks zero ok x k t p q OM ho
  simp only[Bool.and_eq_true,beq_iff_eq]at bg;obtain⟨⟨⟨⟨h1,h2⟩,rfl⟩,h4⟩,h5⟩:=bg;obtain⟨kt,et,hu,hk⟩:=OK h1;simp only[OL,hu]at h2;exact Zp ho hu hk h2 h4 h5 hR hd ah
 ·rename_i ag ks sh x k y t p q r ho
  simp only[Bool.and_eq_true,Option.isNone_iff_eq_none]at bg;obtain⟨⟨⟨⟨h1,h2⟩,h3⟩,h4⟩,h5⟩:=bg;obtain⟨kt,et,hu,hk⟩:=OK h2;exact Zq ho h1 hu hk h3 h4 h5 hR (by rw[h1]at ah;exact h1 ▸ ah)
 ·rename_i zero qs t ps ho
  simp only[Bool.and_eq_true]at bg;obtain⟨i,z,h1,h2,h3⟩:=E6 bg.1;have h4:=bg.2;split at h4
  ·rename_i pl kq;exact YJ ho h1 h2 kq h3 h4 hR hd ah
  ·cases h4
 ·rename_i tok sh zero len qs t n ps ho
  simp only[Bool.and_eq_true,beq_iff_eq]at bg;obtain⟨⟨⟨⟨⟨h1,h2⟩,h3⟩,h4⟩,h5⟩,h6⟩:=bg;subst h2;obtain⟨e,i,z,q1,q2,q3,q4,q5,q6,q7⟩:=Cl h1;simp only[q1,q2,q3,Option.bind_some]at h6;exact YM ho q1 q2 q3 q4 q5 q7 (Nat.le_of_ble_eq_true h3) (Nat.le_of_ble_eq_true h4) h6 h5 (fun f hf=>hn f (by subst hf;simp[VO.names])) hR hd ah
 ·rename_i sh zero len t y z ho
  simp only[Bool.and_eq_true]at bg;obtain⟨⟨⟨⟨h1,h2⟩,h3⟩,h4⟩,h6⟩:=bg;obtain⟨e,i,z,q1,q2,q3,q4,q5,q6,q7⟩:=Cl h1;simp only[q1,q2,q3,Option.bind_some]at h6;exact YQ ho q1 q2 q3 q4 q5 q6 q7 (Nat.le_of_ble_eq_true h2) h6 h3 h4 hR hd ah
 ·rename_i root sz x t y ho
  simp only[Bool.and_eq_true]at bg;exact Yv ho bg.1 bg.2 hR hd ah
 ·rename_i root sh x z t y u ho
  simp only[Bool.and_eq_true,beq_iff_eq,Option.isNone_iff_eq_none]at bg;exact YV ho bg.1.1.1 bg.1.1.2 bg.1.2 bg.2 hR (by rw[bg.1.1.1]at ah;exact bg.1.1.1 ▸ ah)
 ·rename_i x y ho;exact Yi ho bg hR hd ah
 ·rename_i op x y tL t p q t' ho
  simp only[Bool.and_eq_true,decide_eq_true_eq]at bg;obtain⟨⟨rfl,h1⟩,h2⟩:=bg;exact Yf ho h1 h2 hR hd ah
 ·rename_i neg x y tL t p q t' ho
  simp only[Bool.and_eq_true,decide_eq_true_eq]at bg;obtain⟨⟨⟨rfl,h0⟩,h1⟩,h2⟩:=bg;split at h0
  ·rename_i hu;exact Ye ho hu h1 h2 hR hd ah
  ·cases h0
 ·rename_i neg ks x y tL t p q t' ho
  simp only[Bool.and_eq_true,decide_eq_true_eq,beq_iff_eq,Bool.not_eq_true']at bg;obtain⟨⟨⟨⟨⟨⟨rfl,h0⟩,h1⟩,h2⟩,h3⟩,h4⟩,h5⟩:=bg;exact Zr ho h0 h1 h2 h3 h4 h5 hR hd ah
 ·rename_i op x tL t y ho
  simp only[Bool.and_eq_true,decide_eq_true_eq]at bg;obtain⟨rfl,h1⟩:=bg;exact Yg ho h1 hR hd ah
 ·rename_i k x s t y ho
  simp only[Bool.and_eq_true,Option.isSome_iff_exists]at bg;obtain⟨⟨⟨d,h0⟩,h1⟩,h2⟩:=bg;split at h1
  ·rename_i k' hu
   have:=of_decide_eq_true h1;subst this;exact Yh ho h0 hu h2 hR hd ah
  ·cases h1
 ·rename_i off x s y fi ho
  simp only[Bool.and_eq_true]at bg;obtain⟨h0,h1⟩:=bg;split at h1
  ·rename_i fs hu
   split at h1
   ·rename_i f hf
    simp only[Bool.and_eq_true,beq_iff_eq]at h1;obtain⟨h2,h3⟩:=h1;split at h3
    ·rename_i n ei;exact Yj ho hu hf ei (by simpa using h3) h2 h0 hR hd ah
    ·cases h3
   ·cases h1
  ·cases h1
 ·rename_i n sz x i t y j ho
  simp only[Bool.and_eq_true]at bg;obtain⟨⟨h0,h1⟩,h2⟩:=bg;split at h2
  ·rename_i len e hu
   simp only[Bool.and_eq_true,beq_iff_eq]at h2;obtain⟨rfl,h3⟩:=h2;exact Yk ho hu h3 h0 h1 hR hd ah
  ·cases h2
 ·rename_i sz x i t y j ho
  simp only[Bool.and_eq_true]at bg;obtain⟨⟨h0,h1⟩,h2⟩:=bg;split at h2
  ·rename_i e hu
   exact Yl ho hu (eq_of_beq h2) h0 h1 hR hd ah
  ·cases h2
 ·rename_i n sz ag x i t y j ho
  simp only[Bool.and_eq_true]at bg;obtain⟨⟨h0,h1⟩,h2⟩:=bg;split at h2
  ·rename_i len e hu
   simp only[Bool.and_eq_true,beq_iff_eq]at h2;obtain⟨⟨rfl,h3⟩,h4⟩:=h2;exact Yx ho hu h4 h3 h0 h1 hR hd ah
  ·cases h2
 ·rename_i off sz x t y fi ho
  simp only[Bool.and_eq_true]at bg;obtain⟨h0,h1⟩:=bg;split at h1
  ·rename_i fs hu
   split at h1
   ·rename_i f hf
    simp only[Bool.and_eq_true,beq_iff_eq]at h1;exact Yw ho hu hf h1.1 h1.2 h0 hR hd ah
   ·cases h1
  ·cases h1
 ·rename_i x args ts ho
  simp only[Bool.and_eq_true]at bg;obtain⟨h0,h1⟩:=bg;split at h0
  ·rename_i y hy
   split at h1
   ·rename_i t ht
    split at h1
    ·rename_i e hu
     have:args = #[y]:=by apply Array.ext';simpa using hy
     subst this;exact Ym ho ht hu h0 hR hd ah
    ·cases h1
   ·cases h1
  ·cases h0
 ·rename_i x args ts ho
  simp only[Bool.and_eq_true]at bg;obtain⟨h0,h1⟩:=bg;split at h0
  ·rename_i y hy
   split at h1
   ·rename_i t ht
    split at h1
    ·rename_i hu
     have:args = #[y]:=by apply Array.ext';simpa using hy
     subst this;exact Yo ho ht hu h0 hR hd ah
    ·cases h1
   ·cases h1
  ·cases h0
 ·rename_i bT src sh mx x y args ts ho
  simp only[Bool.and_eq_true]at bg;obtain⟨h0,h1⟩:=bg;split at h0
  ·rename_i p q vN
   split at h1
   ·rename_i t u I0
    simp only[Bool.and_eq_true,beq_iff_eq]at h1 h0;obtain⟨⟨rfl,h2⟩,h5⟩:=h1;obtain⟨e,i,z,q1,q2,q3,q4,q5,q6,q7⟩:=Cl h2;have e1:args = #[p,q]:=by apply Array.ext';simpa using vN
    have e2:ts = #[t,t]:=by apply Array.ext';simpa using I0
    subst e1;subst e2;exact YF (Zl h5 q1) ho q1 ⟨⟨i,z,q2,q3,q4,q5,q6⟩,q7⟩ h0.1 h0.2 (hn bT (by simp[VO.names])) hR hd ah
   ·cases h1
  ·cases h0
 ·rename_i nw src sh x y args ts ho
  simp only[Bool.and_eq_true]at bg;obtain⟨h0,h1⟩:=bg;split at h0
  ·rename_i p q vN
   split at h1
   ·rename_i t u I0
    simp only[Bool.and_eq_true,beq_iff_eq]at h1 h0;obtain⟨rfl,h2⟩:=h1;obtain⟨e,i,z,q1,q2,q3,q4,q5,q6,q7⟩:=Cl h2;have e1:args = #[p,q]:=by apply Array.ext';simpa using vN
    have e2:ts = #[t,t]:=by apply Array.ext';simpa using I0
    subst e1;subst e2;exact Zs ho q1 ⟨⟨i,z,q2,q3,q4,q5,q6⟩,q7⟩ h0.1 h0.2 (hn nw (by simp[VO.names])) hR hd ah
   ·cases h1
  ·cases h0
 ·rename_i x i y j ho
  simp only[Bool.and_eq_true,beq_iff_eq]at bg;obtain⟨h0,rfl⟩:=bg;exact Yp ho h0 hR hd ah
 ·rename_i alone f args reg gg as ts ho
  simp only[Bool.and_eq_true]at bg;have sA:∀p f,look p reg=some f→S.ez f:=fun p f hp=>hn f (by
   simp only[VO.names,yI];exact List.mem_map.2 ⟨(p,f),sy hp,rfl⟩)
  cases alone
  ·exact OE ho bg.1.1 (Az bg.1.2) hC bg.2 sA hR hd ah
  ·exact Zi ho bg.1.1 (Az bg.1.2) hC bg.2 sA hR hd ah
 ·rename_i f id x gg as ts ho
  simp only[Bool.and_eq_true,beq_iff_eq]at bg;obtain⟨⟨h0,h1⟩,h2⟩:=bg;split at h2
  ·rename_i p q hq
   simp only[Bool.and_eq_true]at h2;have e:as = #[p,q]:=by apply Array.ext';simpa using hq
   subst e;refine Zt ho ?_ h2.1 h2.2 (iq f 2 h0) (hn id (by simp[VO.names])) hR hd ah
   have hr:=cL (v:=.fn f []) hR h1 rfl;generalize a.eval gg=y at hr;cases hr with
   |plain h _=>cases h
   |fn _ _ xs hl hx =>
    have:xs = #[]:=by
     apply Array.eq_empty_of_size_eq_zero;simpa using hl.symm
    rw[this]
  ·cases h2
 ·rename_i x args ts ho
  simp only[Bool.and_eq_true]at bg;obtain⟨h0,h1⟩:=bg;split at h0
  ·rename_i y hy
   have e:args = #[y]:=by apply Array.ext';simpa using hy
   subst e;split at h1
   ·rename_i t ht
    split at h1
    ·rename_i e hu;exact Yn ho ht hu h0 hR hd ah
    ·cases h1
   ·cases h1
  ·cases h0
 ·rename_i id src x y args ts ho
  simp only[Bool.and_eq_true]at bg;obtain⟨h0,h1⟩:=bg;split at h0
  ·rename_i p q vN
   simp only[Bool.and_eq_true]at h0;have e:args = #[p,q]:=by apply Array.ext';simpa using vN
   subst e;split at h1
   ·rename_i t t2 ht
    have e2:ts = #[t,t2]:=by apply Array.ext';simpa using ht
    subst e2;split at h1
    ·rename_i e hu;exact Zu ho hu (eq_of_beq h1) h0.1 h0.2 hR hd ah
    ·cases h1
   ·cases h1
  ·cases h0
 ·rename_i k f _ x gg as ts ho
  simp only[Bool.and_eq_true,beq_iff_eq,bne_iff_ne,ne_eq]at bg;obtain⟨⟨⟨h0,mZ⟩,h1⟩,h2⟩:=bg;split at h2
  ·rename_i q hq
   have e:as = #[q]:=by apply Array.ext';simpa using hq
   subst e;have Zv:I1 P k f:=by
    have:=iq f k h0;unfold pB at this;split at this
    ·exact absurd rfl mZ
    ·exact this
   refine Zw ho ?_ h2 Zv hR hd (by simpa only[VO.run] using ah)
   have hr:=cL (v:=.fn f []) hR h1 rfl;generalize a.eval gg=y at hr;cases hr with
   |plain h _=>cases h
   |fn _ _ xs hl hx =>
    have:xs = #[]:=by
     apply Array.eq_empty_of_size_eq_zero;simpa using hl.symm
    rw[this]
  ·cases h2
 ·rename_i f args id pos gg as ts ho
  simp only[Bool.and_eq_true]at bg;exact I2 ho bg.1 (Az bg.2) hC (hn id (by simp[VO.names])) hR hd ah
 ·rename_i f args id gg as ts ho
  simp only[Bool.and_eq_true]at bg;exact Zx ho bg.1.1 (Az bg.1.2) hC (hn id (by simp[VO.names])) bg.2 hR hd ah
 ·rename_i f args gg as ts ho
  simp only[Bool.and_eq_true]at bg;exact OE (reg:=[]) ho bg.1 (Az bg.2) hC rfl (by intro p f h;cases h) hR hd (OI ah)
 ·rename_i id zero x t y z ho
  simp only[Bool.and_eq_true]at bg;obtain⟨⟨⟨h0,h1⟩,h2⟩,h3⟩:=bg;obtain⟨e,i,z,q1,q2,q3,q4,q5,q6,q7⟩:=Cl h2;simp only[q1]at h3;obtain⟨i',z',r1,r2,r3⟩:=E6 h3;rw[q2]at r1;cases r1;rw[q3]at r2;cases r2;exact YP ho q1 q2 q3 q4 (by omega) q6 r3 h0 h1 (hn id (by simp[VO.names])) hR hd ah
 ·rename_i sz x lo hi t y l h ho
  simp only[Bool.and_eq_true]at bg;obtain⟨⟨⟨h0,h1⟩,h2⟩,h3⟩:=bg;split at h3
  ·rename_i e hu
   refine Y9 ho hu (eq_of_beq h3) h0 ?_ ?_ hR hd ah
   ·unfold E4 at h1;split at h1<;>first|trivial|exact h1|cases h1
   ·unfold E4 at h2;split at h2<;>first|trivial|exact h2|cases h2
  ·cases h3
 ·rename_i mx x y z b args ts ho
  simp only[Bool.and_eq_true,decide_eq_true_eq]at bg;obtain⟨rfl,h1⟩:=bg;split at h1
  ·rename_i p q r vN
   simp only[Bool.and_eq_true]at h1;have e1:args = #[p,q,r]:=by apply Array.ext';simpa using vN
   subst e1;exact Yr ho h1.1.1 h1.1.2 h1.2 hR hd ah
  ·cases h1
 ·rename_i mx x y b args ts ho
  simp only[Bool.and_eq_true,decide_eq_true_eq]at bg;obtain⟨rfl,h1⟩:=bg;split at h1
  ·rename_i p q vN
   simp only[Bool.and_eq_true]at h1;have e1:args = #[p,q]:=by apply Array.ext';simpa using vN
   subst e1;exact Yq ho h1.1 h1.2 hR hd ah
  ·cases h1
 ·rename_i f cap gg first vx ho
  simp only[Bool.and_eq_true,beq_iff_eq,Array.isEmpty_iff]at bg;obtain⟨⟨rfl,rfl⟩,h2⟩:=bg;obtain⟨q1,q2⟩:=ON h2;exact Ys ho ⟨by simpa using q1,fun i x y hx hy=>q2 i x y hx (by simpa using hy)⟩ hR hd ah
 ·rename_i f args ids gg as ts ho
  simp only[Bool.and_eq_true]at bg;exact Zy ho bg.1 (OJ bg.2) hC hR hd ah
 ·rename_i n t m ps ho
  simp only[Bool.and_eq_true,beq_iff_eq,Array.isEmpty_iff]at bg;obtain⟨⟨rfl,rfl⟩,h⟩:=bg;split at h
  ·rename_i e hu
   obtain⟨k,hk⟩:=Option.isSome_iff_exists.1 h;exact YX ho hu hk hR hd ah
  ·cases h
 ·rename_i neg x op t p q ty ho
  simp only[Bool.and_eq_true,decide_eq_true_eq]at bg;obtain⟨⟨⟨h1,h2⟩,h3⟩,h4⟩:=bg;split at h2
  ·rename_i e hu
   exact YY ho h1 hu h3 h4 hR hd ah
  ·cases h2
 ·rename_i bT x t y ho
  simp only[Bool.and_eq_true]at bg;exact YZ ho bg.1 bg.2 (hn bT (by simp[VO.names])) hR hd ah
 ·rename_i bT x z t y u ho
  simp only[Bool.and_eq_true,beq_iff_eq,Option.isNone_iff_eq_none]at bg;exact Y5 ho bg.1.1.1 bg.1.1.2 bg.1.2 bg.2 hR (by rw[bg.1.1.1]at ah;exact bg.1.1.1 ▸ ah)
 ·cases bg
end
end Go.Vm
