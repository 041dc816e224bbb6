/- The value machine, 10: what an operation may be, and that each does in the model what it does here. -/
import Derived.Test.YtmpikpodpgnjhaaGreatVmU
import Derived.Test.YtmpikpodpgnjhaaGreatVmS
namespace Go.Vm
set_option linter.all false
def VO.names:VO→List Nat
 |.obj id _ | .box id _ | .mf id _ _=>[id]
 |.grow _ id _=>[id]
 |.lit (some f) _ _ _ _=>[f]
 |.app f _ _ _ _ _=>[f]
 |.m9 f _ _ _ _=>[f]
 |.pd f _=>[f]
 |.call _ _ _ reg=>xZ reg
 |.own _ _ id _=>[id]
 |.pG _ _ id=>[id]
 |_=>[]
def vk:List Operand→List (Sh×bB)→Bool
 |[],[]=>true
 |y::ys,(_,x)::xs=>bX y x&&vk ys xs
 |_,_=>false
def Au:List Operand→List (Sh×Sh×bB)→Bool
 |[],[]=>true
 |y::ys,(_,_,x)::xs=>bX y x&&Au ys xs
 |_,_=>false
theorem OO:∀{ys:List Operand} {xs:List (Sh×Sh×bB)},Au ys xs=true→xs.length=ys.length∧∀(i:Nat) rs sh x y,xs[i]?=some (rs,sh,x)→ys[i]?=some y→bX y x=true
 |[],[],_=>by simp
 |[],_::_,h=>by simp[Au]at h
 |_::_,[],h=>by simp[Au]at h
 |y::ys,(rs,sh,x)::xs,h=>by
  simp only[Au,Bool.and_eq_true]at h;obtain⟨p,q⟩:=OO h.2;refine⟨by simp[p],fun i vb vi x' y' hx hy=>?_⟩
  cases i with
  |zero=>simp at hx hy;obtain⟨_,_,rfl⟩:=hx;subst hy;exact h.1
  |succ i=>exact q i vb vi x' y' (by simpa using hx) (by simpa using hy)
def Av:List Operand→List bB→Bool
 |[],[]=>true
 |y::ys,x::xs=>bX y x&&Av ys xs
 |_,_=>false
def E8:Option Operand→Option bB→Bool
 |none,none=>true
 |some y,some x=>bX y x
 |_,_=>false
def Aw(P:Program)(t:TypeId)(cells:List V):Bool :=
 match (P.info? t).bind (·.zero) with
 |some z=>rX z.cells.toList cells
 |none=>false
def yn(P:Program)(t:TypeId)(n:Nat):Bool :=
 match P.underlying t with
 |some (.slice e)=>match P.info? e with
  |some i=>match i.zero with
   |some z=>i.size==n&&z.cells.size==n&&Nat.ble i.bytes 32768&&Nat.blt 0 n
   |none=>false
  |none=>false
 |_=>false
def I4(P:Program)(t:TypeId)(mx:Nat):Bool :=
 match P.underlying t with
 |some (.slice e)=>match P.info? e with
  |some i=>Nat.ble mx 140737488355328&&Nat.ble (mx*i.bytes) 140737488355328
  |none=>false
 |_=>false
def E9(P:Program)(t:TypeId)(ag:Bool)(ks:List Nat):Bool :=
 match P.underlying t with
 |some (.map kt _)=>oL P 100 kt==some ks&&kl P kt==some ag&&fh P kt==some ks.length
 |_=>false
theorem OP{P:Program}{t:TypeId}{ag:Bool}{ks:List Nat}(h:E9 P t ag ks=true):∃kt et,P.underlying t=some (.map kt et)∧uB P kt ag ks:=by
 unfold E9 at h;split at h
 ·rename_i kt et hu
  simp only[Bool.and_eq_true,beq_iff_eq]at h;exact⟨kt,et,hu,⟨h.1.1,h.1.2,h.2⟩⟩
 ·cases h
def OQ(P:Program)(t:TypeId)(zero:V):Bool :=
 match P.underlying t with
 |some (.map _ et)=>I5 P et zero
 |_=>false
def I6(P:Program)(ps:List (Nat×Nat))(o:Oper)(vo:VO):Bool :=
 match vo,o.op with
 |.mv x,.move y=>bX y x
 |.mv x,.assign y=>bX y x
 |.pick c a b,.pick c' a' b'=>bX c' c&&bX a' a&&bX b' b
 |.obj _ cells,.alloc t=>Aw P t cells
 |.box _ x,.box _ y=>bX y x
 |.ou _ x,.box _ y=>bX y x
 |.pc _ zero,.alloc t=>Aw P t zero
 |.rO,.makeMap _ none=>true
 |.sY ag ks zero ok x k,.lookup t p q OR=>E9 P t ag ks&&OQ P t zero&&ok==OR&&bX p x&&bX q k
 |.rP ag ks _ x k y,.mapUpdate t p q r=>o.dst.isNone&&E9 P t ag ks&&bX p x&&bX q k&&bX r y
 |.build zero qs,.build t ps=>Aw P t zero&&(match placeOf P t with|some pl=>xS pl ps.toList qs|none=>false)
 |.lit _ sh zero len qs,.buildSlice t n ps=>yn P t sh.length&&len==n&&Nat.blt 0 len&&Nat.ble (len*sh.length) 16777216&&xU len ps.toList qs &&
  (match P.underlying t with|some (.slice e)=>(match (P.info? e).bind (·.zero) with|some z=>r7 z.cells.toList sh zero|none=>false)|_=>false)
 |.lit none sh zero len [],.makeSlice t y z=>yn P t sh.length&&Nat.ble len 65536&&bX y (.c (.int .i64 len))&&bX z (.c (.int .i64 len)) &&
  (match P.underlying t with|some (.slice e)=>(match (P.info? e).bind (·.zero) with|some z=>r7 z.cells.toList sh zero|none=>false)|_=>false)
 |.load _ sz x,.load t y=>pL P t sz&&bX y x
 |.store _ sh x z,.store t y u=>o.dst.isNone&&fh P t==some sh.length&&bX y x&&bX u z
 |.qn x,.nilCheck y=>bX y x
 |.bin op x y,.binOp tn _ p q _=>decide (op=tn)&&bX p x&&bX q y
 |.beq neg x y,.binOp tn t p q _=>decide (tn=if neg then .neq else .eql)&&(match P.underlying t with|some .bool=>true|_=>false)&&bX p x&&bX q y
 |.gW neg ks x y,.binOp tn t p q _=>decide (tn=if neg then .neq else .eql)&&oL P 100 t==some ks&&kl P t==some true && !P.eqGuardType P.depth t&&fh P t==some ks.length&&bX p x&&bX q y
 |.un op x,.unOp tn _ y=>decide (op=tn)&&bX y x
 |.conv k x,.convert s t y=>(P.underlying s).isSome&&(match P.underlying t with|some (.int k')=>decide (k'=k)|_=>false)&&bX y x
 |.qW off x,.fieldAddr s y fi=>bX y x&&(match P.underlying s with
  |some (.struct fs)=>(match fs[fi]? with|some f=>f.offset==off&&(match fh P f.type with|some n=>n != 0|none=>false)|none=>false)
  |_=>false)
 |.eg (some n) sz x i,.indexAddr t y j=>bX y x&&bX j i&&(match P.underlying t with|some (.array len e)=>len==n&&fh P e==some sz|_=>false)
 |.eg none sz x i,.indexAddr t y j=>bX y x&&bX j i&&(match P.underlying t with|some (.slice e)=>fh P e==some sz|_=>false)
 |.idx n sz ag x i,.index t y j=>bX y x&&bX j i&&(match P.underlying t with|some (.array len e)=>len==n&&fh P e==some sz&&pL P e (bif ag then some sz else none)|_=>false)
 |.field off sz x,.field t y fi=>bX y x&&(match P.underlying t with
  |some (.struct fs)=>(match fs[fi]? with|some f=>f.offset==off&&pL P f.type sz|none=>false)
  |_=>false)
 |.len x,.call ⟨.builtin .len,args,ts⟩=>(match args.toList with | [y]=>bX y x|_=>false)&&(match ts[0]? with|some t=>(match P.underlying t with|some (.slice _)=>true|_=>false)|none=>false)
 |.s6 x,.call ⟨.builtin .len,args,ts⟩=>(match args.toList with | [y]=>bX y x|_=>false)&&(match ts[0]? with|some t=>(match P.underlying t with|some .string=>true|_=>false)|none=>false)
 |.app _ _ sh mx x y,.call ⟨.builtin .append,args,ts⟩=>(match args.toList with | [p,q]=>bX p x&&bX q y|_=>false)&&(match ts.toList with | [t,u]=>t==u&&yn P t sh.length&&I4 P t mx|_=>false)
 |.m9 _ _ sh x y,.call ⟨.builtin .append,args,ts⟩=>(match args.toList with | [p,q]=>bX p x&&bX q y|_=>false)&&(match ts.toList with | [t,u]=>t==u&&yn P t sh.length|_=>false)
 |.ext x i,.extract y j=>bX y x&&i==j
 |.call _ f args reg,.call ⟨.value g,as,_⟩=>bX g f&&vk as.toList args&&inj reg
 |.grow f _ x,.call ⟨.value g,as,_⟩=>look f ps==some 2&&bX g (.c (.fn f []))&&(match as.toList with | [p,q]=>bX p (.c .aK)&&bX q x|_=>false)
 |.ud x,.call ⟨.builtin .cap,args,ts⟩=>(match args.toList with | [y]=>bX y x|_=>false)&&(match ts[0]? with|some t=>(match P.underlying t with|some (.slice _)=>true|_=>false)|none=>false)
 |.qm _ _ x y,.call ⟨.builtin .copy,args,ts⟩=>(match args.toList with | [p,q]=>bX p x&&bX q y|_=>false)&&(match ts.toList with | [t,_]=>(match P.underlying t with|some (.slice e)=>fh P e==some 1|_=>false)|_=>false)
 |.rQ k f _ x,.call ⟨.value g,as,_⟩=>look f ps==some k&&k != 2&&bX g (.c (.fn f []))&&(match as.toList with | [q]=>bX q x|_=>false)
 |.own f args _ _,.call ⟨.value g,as,_⟩=>bX g f&&vk as.toList args
 |.pG f args _,.call ⟨.value g,as,_⟩=>bX g f&&vk as.toList args&&o.dst.isSome
 |.mG f args,.call ⟨.value g,as,_⟩=>bX g f&&vk as.toList args
 |.mf _ zero x,.makeSlice t y z=>bX y x&&bX z x&&yn P t zero.length&&(match P.underlying t with|some (.slice e)=>Aw P e zero|_=>false)
 |.pf sz x lo hi,.slice t y l h none=>bX y x&&E8 l lo&&E8 h hi&&(match P.underlying t with|some (.slice e)=>fh P e==some sz|_=>false)
 |.rR mx x y z,.call ⟨.builtin b,args,_⟩=>decide (b=if mx then .max else .min)&&(match args.toList with | [p,q,r]=>bX p x&&bX q y&&bX r z|_=>false)
 |.mm mx x y,.call ⟨.builtin b,args,_⟩=>decide (b=if mx then .max else .min)&&(match args.toList with | [p,q]=>bX p x&&bX q y|_=>false)
 |.pH f cap,.makeFunc (.func g) first u4=>f==g&&first.isEmpty&&Av u4.toList cap
 |.pe f args _,.call ⟨.value g,as,_⟩=>bX g f&&Au as.toList args
 |.sZ _,.buildSlice t n ps=>n==0&&ps.isEmpty&&(match P.underlying t with|some (.slice e)=>(fh P e).isSome|_=>false)
 |.qV neg x,.binOp op t p q _=>decide (op=if neg then .neq else .eql)&&(match P.underlying t with|some (.slice _)=>true|_=>false)&&bX p x&&bX q (.c .aK)
 |.pd _ x,.load t y=>pL P t none&&bX y x
 |.pF _ x z,.store t y u=>o.dst.isNone&&fh P t==some 1&&bX y x&&bX u z
 |_,_=>false
theorem Ax:∀{ys:List Operand} {xs:List (Sh×bB)},vk ys xs=true→xs.length=ys.length∧∀(i:Nat) sh x y,xs[i]?=some (sh,x)→ys[i]?=some y→bX y x=true
 |[],[],_=>by simp
 |[],_::_,h=>by simp[vk]at h
 |_::_,[],h=>by simp[vk]at h
 |y::ys,(sh,x)::xs,h=>by
  simp only[vk,Bool.and_eq_true]at h;obtain⟨p,q⟩:=Ax h.2;refine⟨by simp[p],fun i vi x' y' hx hy=>?_⟩
  cases i with
  |zero=>simp at hx hy;obtain⟨_,rfl⟩:=hx;subst hy;exact h.1
  |succ i=>exact q i vi x' y' (by simpa using hx) (by simpa using hy)
theorem OS:∀{ys:List Operand} {xs:List bB},Av ys xs=true→xs.length=ys.length∧∀(i:Nat) x y,xs[i]?=some x→ys[i]?=some y→bX y x=true
 |[],[],_=>by simp
 |[],_::_,h=>by simp[Av]at h
 |_::_,[],h=>by simp[Av]at h
 |y::ys,x::xs,h=>by
  simp only[Av,Bool.and_eq_true]at h;obtain⟨p,q⟩:=OS h.2;refine⟨by simp[p],fun i x' y' hx hy=>?_⟩
  cases i with
  |zero=>simp at hx hy;subst hx;subst hy;exact h.1
  |succ i=>exact q i x' y' (by simpa using hx) (by simpa using hy)
theorem Fa{P:Program}{t:TypeId}{cells:List V}(h:Aw P t cells=true):∃i z,P.info? t=some i∧i.zero=some z∧rX z.cells.toList cells=true:=by
 unfold Aw at h;cases hi:P.info? t with
 |none=>simp[hi]at h
 |some i =>
  cases hz:i.zero with
  |none=>simp[hi,hz]at h
  |some z=>simp[hi,hz]at h;exact⟨i,z,rfl,hz,h⟩
theorem XE{P:Program}{t e:TypeId}{mx:Nat}(h:I4 P t mx=true)(he:P.underlying t=some (.slice e)):mx≤140737488355328∧∀i,P.info? e=some i→mx*i.bytes≤140737488355328:=by
 unfold I4 at h;rw[he]at h;simp only at h;split at h
 ·rename_i i hi
  simp only[Bool.and_eq_true]at h;refine⟨Nat.le_of_ble_eq_true h.1,fun i' pS=>?_⟩;rw[hi]at pS;cases pS;exact Nat.le_of_ble_eq_true h.2
 ·cases h
theorem CE{P:Program}{t:TypeId}{n:Nat}(h:yn P t n=true):∃e i z,P.underlying t=some (.slice e)∧P.info? e=some i∧i.zero=some z∧i.size=n∧z.cells.size=n∧i.bytes≤32768∧0<n:=by
 unfold yn at h;split at h
 ·rename_i e hu
  split at h
  ·rename_i i hi
   split at h
   ·rename_i z hz
    simp only[Bool.and_eq_true,beq_iff_eq]at h;exact⟨e,i,z,hu,hi,hz,h.1.1.1,h.1.1.2,Nat.le_of_ble_eq_true h.1.2,Nat.le_of_ble_eq_true h.2⟩
   ·cases h
  ·cases h
 ·cases h
section
variable {P:Program} {E:Entry} {g g':Gh} {S S':St} {a:Act} {w w':World}
theorem XF{ps:List (Nat×Nat)}(iR:∀f k,look f ps=some k→pU P k f){o:Oper}{vo:VO}{C:bC}(bz:I6 P ps o vo=true)
  (hC:∀f args G r G',C f args G=some (r,G')→r8 P f args G r G')
  (hn:∀n∈vo.names,S.eR n) (vl:∀id x v,vo=.box id x→S.ev x=some v→v.cu id=false)
  (hR:R E g S a w) (hd:∀d,o.dst=some d→d<E.nt) (aj:VO.run C o.dst S vo=some S'):ct P E o S S' a w:=by
 unfold I6 at bz;split at bz
 ·rename_i x y ho;exact N3 (.inl ho) bz hR hd aj
 ·rename_i x y ho;exact N3 (.inr ho) bz hR hd aj
 ·rename_i c p q c' p' q' ho
  simp only[Bool.and_eq_true]at bz;exact Wp ho bz.1.1 bz.1.2 bz.2 hR hd aj
 ·rename_i id cells t ho
  obtain⟨i,z,h1,h2,h3⟩:=Fa bz;exact WR ho h1 h2 h3 (hn id (by simp[VO.names])) hR hd aj
 ·rename_i id x t y ho
  exact WS ho bz (hn id (by simp[VO.names])) (fun v hv=>vl id x v rfl hv) hR hd aj
 ·rename_i sh x t y ho
  exact Xf ho bz hR hd aj
 ·rename_i sh zero t ho
  obtain⟨i,z,h1,h2,h3⟩:=Fa bz;exact XG ho h1 h2 h3 hR hd aj
 ·rename_i t ho
  exact XH ho hR hd aj
 ·rename_i ag ks zero ok x k t p q OR ho
  simp only[Bool.and_eq_true,beq_iff_eq]at bz;obtain⟨⟨⟨⟨h1,h2⟩,rfl⟩,h4⟩,h5⟩:=bz;obtain⟨kt,et,hu,hk⟩:=OP h1;simp only[OQ,hu]at h2;exact XI ho hu hk h2 h4 h5 hR hd aj
 ·rename_i ag ks sh x k y t p q r ho
  simp only[Bool.and_eq_true,Option.isNone_iff_eq_none]at bz;obtain⟨⟨⟨⟨h1,h2⟩,h3⟩,h4⟩,h5⟩:=bz;obtain⟨kt,et,hu,hk⟩:=OP h2;exact XJ ho h1 hu hk h3 h4 h5 hR (by rw[h1]at aj;exact h1 ▸ aj)
 ·rename_i zero qs t ps ho
  simp only[Bool.and_eq_true]at bz;obtain⟨i,z,h1,h2,h3⟩:=Fa bz.1;have h4:=bz.2;split at h4
  ·rename_i pl mn;exact W2 ho h1 h2 mn h3 h4 hR hd aj
  ·cases h4
 ·rename_i tok sh zero len qs t n ps ho
  simp only[Bool.and_eq_true,beq_iff_eq]at bz;obtain⟨⟨⟨⟨⟨h1,h2⟩,h3⟩,h4⟩,h5⟩,h6⟩:=bz;subst h2;obtain⟨e,i,z,q1,q2,q3,q4,q5,q6,q7⟩:=CE h1;simp only[q1,q2,q3,Option.bind_some]at h6;exact W5 ho q1 q2 q3 q4 q5 q7 (Nat.le_of_ble_eq_true h3) (Nat.le_of_ble_eq_true h4) h6 h5 (fun f hf=>hn f (by subst hf;simp[VO.names])) hR hd aj
 ·rename_i sh zero len t y z ho
  simp only[Bool.and_eq_true]at bz;obtain⟨⟨⟨⟨h1,h2⟩,h3⟩,h4⟩,h6⟩:=bz;obtain⟨e,i,z,q1,q2,q3,q4,q5,q6,q7⟩:=CE h1;simp only[q1,q2,q3,Option.bind_some]at h6;exact W9 ho q1 q2 q3 q4 q5 q6 q7 (Nat.le_of_ble_eq_true h2) h6 h3 h4 hR hd aj
 ·rename_i root sz x t y ho
  simp only[Bool.and_eq_true]at bz;exact WN ho bz.1 bz.2 hR hd aj
 ·rename_i root sh x z t y u ho
  simp only[Bool.and_eq_true,beq_iff_eq,Option.isNone_iff_eq_none]at bz;exact Xe ho bz.1.1.1 bz.1.1.2 bz.1.2 bz.2 hR (by rw[bz.1.1.1]at aj;exact bz.1.1.1 ▸ aj)
 ·rename_i x y ho;exact Wz ho bz hR hd aj
 ·rename_i op x y tn t p q t' ho
  simp only[Bool.and_eq_true,decide_eq_true_eq]at bz;obtain⟨⟨rfl,h1⟩,h2⟩:=bz;exact Ww ho h1 h2 hR hd aj
 ·rename_i neg x y tn t p q t' ho
  simp only[Bool.and_eq_true,decide_eq_true_eq]at bz;obtain⟨⟨⟨rfl,h0⟩,h1⟩,h2⟩:=bz;split at h0
  ·rename_i hu;exact Wv ho hu h1 h2 hR hd aj
  ·cases h0
 ·rename_i neg ks x y tn t p q t' ho
  simp only[Bool.and_eq_true,decide_eq_true_eq,beq_iff_eq,Bool.not_eq_true']at bz;obtain⟨⟨⟨⟨⟨⟨rfl,h0⟩,h1⟩,h2⟩,h3⟩,h4⟩,h5⟩:=bz;exact XK ho h0 h1 h2 h3 h4 h5 hR hd aj
 ·rename_i op x tn t y ho
  simp only[Bool.and_eq_true,decide_eq_true_eq]at bz;obtain⟨rfl,h1⟩:=bz;exact Wx ho h1 hR hd aj
 ·rename_i k x s t y ho
  simp only[Bool.and_eq_true,Option.isSome_iff_exists]at bz;obtain⟨⟨⟨d,h0⟩,h1⟩,h2⟩:=bz;split at h1
  ·rename_i k' hu
   have:=of_decide_eq_true h1;subst this;exact Wy ho h0 hu h2 hR hd aj
  ·cases h1
 ·rename_i off x s y fi ho
  simp only[Bool.and_eq_true]at bz;obtain⟨h0,h1⟩:=bz;split at h1
  ·rename_i fs hu
   split at h1
   ·rename_i f hf
    simp only[Bool.and_eq_true,beq_iff_eq]at h1;obtain⟨h2,h3⟩:=h1;split at h3
    ·rename_i n eH;exact WA ho hu hf eH (by simpa using h3) h2 h0 hR hd aj
    ·cases h3
   ·cases h1
  ·cases h1
 ·rename_i n sz x i t y j ho
  simp only[Bool.and_eq_true]at bz;obtain⟨⟨h0,h1⟩,h2⟩:=bz;split at h2
  ·rename_i len e hu
   simp only[Bool.and_eq_true,beq_iff_eq]at h2;obtain⟨rfl,h3⟩:=h2;exact WB ho hu h3 h0 h1 hR hd aj
  ·cases h2
 ·rename_i sz x i t y j ho
  simp only[Bool.and_eq_true]at bz;obtain⟨⟨h0,h1⟩,h2⟩:=bz;split at h2
  ·rename_i e hu
   exact WC ho hu (eq_of_beq h2) h0 h1 hR hd aj
  ·cases h2
 ·rename_i n sz ag x i t y j ho
  simp only[Bool.and_eq_true]at bz;obtain⟨⟨h0,h1⟩,h2⟩:=bz;split at h2
  ·rename_i len e hu
   simp only[Bool.and_eq_true,beq_iff_eq]at h2;obtain⟨⟨rfl,h3⟩,h4⟩:=h2;exact WQ ho hu h4 h3 h0 h1 hR hd aj
  ·cases h2
 ·rename_i off sz x t y fi ho
  simp only[Bool.and_eq_true]at bz;obtain⟨h0,h1⟩:=bz;split at h1
  ·rename_i fs hu
   split at h1
   ·rename_i f hf
    simp only[Bool.and_eq_true,beq_iff_eq]at h1;exact WO ho hu hf h1.1 h1.2 h0 hR hd aj
   ·cases h1
  ·cases h1
 ·rename_i x args ts ho
  simp only[Bool.and_eq_true]at bz;obtain⟨h0,h1⟩:=bz;split at h0
  ·rename_i y hy
   split at h1
   ·rename_i t ht
    split at h1
    ·rename_i e hu
     have:args = #[y]:=by apply Array.ext';simpa using hy
     subst this;exact WD ho ht hu h0 hR hd aj
    ·cases h1
   ·cases h1
  ·cases h0
 ·rename_i x args ts ho
  simp only[Bool.and_eq_true]at bz;obtain⟨h0,h1⟩:=bz;split at h0
  ·rename_i y hy
   split at h1
   ·rename_i t ht
    split at h1
    ·rename_i hu
     have:args = #[y]:=by apply Array.ext';simpa using hy
     subst this;exact WG ho ht hu h0 hR hd aj
    ·cases h1
   ·cases h1
  ·cases h0
 ·rename_i cf src sh mx x y args ts ho
  simp only[Bool.and_eq_true]at bz;obtain⟨h0,h1⟩:=bz;split at h0
  ·rename_i p q vm
   split at h1
   ·rename_i t u I7
    simp only[Bool.and_eq_true,beq_iff_eq]at h1 h0;obtain⟨⟨rfl,h2⟩,h5⟩:=h1;obtain⟨e,i,z,q1,q2,q3,q4,q5,q6,q7⟩:=CE h2;have e1:args = #[p,q]:=by apply Array.ext';simpa using vm
    have e2:ts = #[t,t]:=by apply Array.ext';simpa using I7
    subst e1;subst e2;exact WY (XE h5 q1) ho q1 ⟨⟨i,z,q2,q3,q4,q5,q6⟩,q7⟩ h0.1 h0.2 (hn cf (by simp[VO.names])) hR hd aj
   ·cases h1
  ·cases h0
 ·rename_i nw src sh x y args ts ho
  simp only[Bool.and_eq_true]at bz;obtain⟨h0,h1⟩:=bz;split at h0
  ·rename_i p q vm
   split at h1
   ·rename_i t u I7
    simp only[Bool.and_eq_true,beq_iff_eq]at h1 h0;obtain⟨rfl,h2⟩:=h1;obtain⟨e,i,z,q1,q2,q3,q4,q5,q6,q7⟩:=CE h2;have e1:args = #[p,q]:=by apply Array.ext';simpa using vm
    have e2:ts = #[t,t]:=by apply Array.ext';simpa using I7
    subst e1;subst e2;exact XL ho q1 ⟨⟨i,z,q2,q3,q4,q5,q6⟩,q7⟩ h0.1 h0.2 (hn nw (by simp[VO.names])) hR hd aj
   ·cases h1
  ·cases h0
 ·rename_i x i y j ho
  simp only[Bool.and_eq_true,beq_iff_eq]at bz;obtain⟨h0,rfl⟩:=bz;exact WH ho h0 hR hd aj
 ·rename_i alone f args reg gg as ts ho
  simp only[Bool.and_eq_true]at bz;have sa:∀p f,look p reg=some f→S.eR f:=fun p f hp=>hn f (by
   simp only[VO.names,xZ];exact List.mem_map.2 ⟨(p,f),r9 hp,rfl⟩)
  cases alone
  ·exact OJ ho bz.1.1 (Ax bz.1.2) hC bz.2 sa hR hd aj
  ·exact XB ho bz.1.1 (Ax bz.1.2) hC bz.2 sa hR hd aj
 ·rename_i f id x gg as ts ho
  simp only[Bool.and_eq_true,beq_iff_eq]at bz;obtain⟨⟨h0,h1⟩,h2⟩:=bz;split at h2
  ·rename_i p q hq
   simp only[Bool.and_eq_true]at h2;have e:as = #[p,q]:=by apply Array.ext';simpa using hq
   subst e;refine XM ho ?_ h2.1 h2.2 (iR f 2 h0) (hn id (by simp[VO.names])) hR hd aj
   have hr:=cZ (v:=.fn f []) hR h1 rfl;generalize a.eval gg=y at hr;cases hr with
   |plain h _=>cases h
   |fn _ _ xs hl hx =>
    have:xs = #[]:=by
     apply Array.eq_empty_of_size_eq_zero;simpa using hl.symm
    rw[this]
  ·cases h2
 ·rename_i x args ts ho
  simp only[Bool.and_eq_true]at bz;obtain⟨h0,h1⟩:=bz;split at h0
  ·rename_i y hy
   have e:args = #[y]:=by apply Array.ext';simpa using hy
   subst e;split at h1
   ·rename_i t ht
    split at h1
    ·rename_i e hu;exact WE ho ht hu h0 hR hd aj
    ·cases h1
   ·cases h1
  ·cases h0
 ·rename_i id src x y args ts ho
  simp only[Bool.and_eq_true]at bz;obtain⟨h0,h1⟩:=bz;split at h0
  ·rename_i p q vm
   simp only[Bool.and_eq_true]at h0;have e:args = #[p,q]:=by apply Array.ext';simpa using vm
   subst e;split at h1
   ·rename_i t t2 ht
    have e2:ts = #[t,t2]:=by apply Array.ext';simpa using ht
    subst e2;split at h1
    ·rename_i e hu;exact XN ho hu (eq_of_beq h1) h0.1 h0.2 hR hd aj
    ·cases h1
   ·cases h1
  ·cases h0
 ·rename_i k f _ x gg as ts ho
  simp only[Bool.and_eq_true,beq_iff_eq,bne_iff_ne,ne_eq]at bz;obtain⟨⟨⟨h0,lC⟩,h1⟩,h2⟩:=bz;split at h2
  ·rename_i q hq
   have e:as = #[q]:=by apply Array.ext';simpa using hq
   subst e;have XO:I8 P k f:=by
    have:=iR f k h0;unfold pU at this;split at this
    ·exact absurd rfl lC
    ·exact this
   refine XP ho ?_ h2 XO hR hd (by simpa only[VO.run] using aj)
   have hr:=cZ (v:=.fn f []) hR h1 rfl;generalize a.eval gg=y at hr;cases hr with
   |plain h _=>cases h
   |fn _ _ xs hl hx =>
    have:xs = #[]:=by
     apply Array.eq_empty_of_size_eq_zero;simpa using hl.symm
    rw[this]
  ·cases h2
 ·rename_i f args id pos gg as ts ho
  simp only[Bool.and_eq_true]at bz;exact I9 ho bz.1 (Ax bz.2) hC (hn id (by simp[VO.names])) hR hd aj
 ·rename_i f args id gg as ts ho
  simp only[Bool.and_eq_true]at bz;exact XQ ho bz.1.1 (Ax bz.1.2) hC (hn id (by simp[VO.names])) bz.2 hR hd aj
 ·rename_i f args gg as ts ho
  simp only[Bool.and_eq_true]at bz;exact OJ (reg:=[]) ho bz.1 (Ax bz.2) hC rfl (by intro p f h;cases h) hR hd (ON aj)
 ·rename_i id zero x t y z ho
  simp only[Bool.and_eq_true]at bz;obtain⟨⟨⟨h0,h1⟩,h2⟩,h3⟩:=bz;obtain⟨e,i,z,q1,q2,q3,q4,q5,q6,q7⟩:=CE h2;simp only[q1]at h3;obtain⟨i',z',r1,r2,r3⟩:=Fa h3;rw[q2]at r1;cases r1;rw[q3]at r2;cases r2;exact W8 ho q1 q2 q3 q4 (by omega) q6 r3 h0 h1 (hn id (by simp[VO.names])) hR hd aj
 ·rename_i sz x lo hi t y l h ho
  simp only[Bool.and_eq_true]at bz;obtain⟨⟨⟨h0,h1⟩,h2⟩,h3⟩:=bz;split at h3
  ·rename_i e hu
   refine Xs ho hu (eq_of_beq h3) h0 ?_ ?_ hR hd aj
   ·unfold E8 at h1;split at h1<;>first|trivial|exact h1|cases h1
   ·unfold E8 at h2;split at h2<;>first|trivial|exact h2|cases h2
  ·cases h3
 ·rename_i mx x y z b args ts ho
  simp only[Bool.and_eq_true,decide_eq_true_eq]at bz;obtain⟨rfl,h1⟩:=bz;split at h1
  ·rename_i p q r vm
   simp only[Bool.and_eq_true]at h1;have e1:args = #[p,q,r]:=by apply Array.ext';simpa using vm
   subst e1;exact WJ ho h1.1.1 h1.1.2 h1.2 hR hd aj
  ·cases h1
 ·rename_i mx x y b args ts ho
  simp only[Bool.and_eq_true,decide_eq_true_eq]at bz;obtain⟨rfl,h1⟩:=bz;split at h1
  ·rename_i p q vm
   simp only[Bool.and_eq_true]at h1;have e1:args = #[p,q]:=by apply Array.ext';simpa using vm
   subst e1;exact WI ho h1.1 h1.2 hR hd aj
  ·cases h1
 ·rename_i f cap gg first u4 ho
  simp only[Bool.and_eq_true,beq_iff_eq,Array.isEmpty_iff]at bz;obtain⟨⟨rfl,rfl⟩,h2⟩:=bz;obtain⟨q1,q2⟩:=OS h2;exact WK ho ⟨by simpa using q1,fun i x y hx hy=>q2 i x y hx (by simpa using hy)⟩ hR hd aj
 ·rename_i f args ids gg as ts ho
  simp only[Bool.and_eq_true]at bz;exact XR ho bz.1 (OO bz.2) hC hR hd aj
 ·rename_i n t m ps ho
  simp only[Bool.and_eq_true,beq_iff_eq,Array.isEmpty_iff]at bz;obtain⟨⟨rfl,rfl⟩,h⟩:=bz;split at h
  ·rename_i e hu
   obtain⟨k,hk⟩:=Option.isSome_iff_exists.1 h;exact Xg ho hu hk hR hd aj
  ·cases h
 ·rename_i neg x op t p q ty ho
  simp only[Bool.and_eq_true,decide_eq_true_eq]at bz;obtain⟨⟨⟨h1,h2⟩,h3⟩,h4⟩:=bz;split at h2
  ·rename_i e hu
   exact Xh ho h1 hu h3 h4 hR hd aj
  ·cases h2
 ·rename_i cf x t y ho
  simp only[Bool.and_eq_true]at bz;exact Xi ho bz.1 bz.2 (hn cf (by simp[VO.names])) hR hd aj
 ·rename_i cf x z t y u ho
  simp only[Bool.and_eq_true,beq_iff_eq,Option.isNone_iff_eq_none]at bz;exact Xo ho bz.1.1.1 bz.1.1.2 bz.1.2 bz.2 hR (by rw[bz.1.1.1]at aj;exact bz.1.1.1 ▸ aj)
 ·cases bz
end
end Go.Vm
