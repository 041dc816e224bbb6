/- The value machine, 10: what an operation may be, and that each does in the model what it does here. -/
import Derived.Test.YtmppfkgfnnebeaaGreatDoorVmU
import Derived.Test.YtmppfkgfnnebeaaGreatDoorVmS
namespace Go.Vm
set_option linter.all false
def VO.names:VO→List Nat
 |.obj id _ | .box id _ | .ug id _ _=>[id]
 |.grow _ id _=>[id]
 |.lit (some f) _ _ _ _=>[f]
 |.app f _ _ _ _ _ _=>[f]
 |.tj f _ _ _ _ _=>[f]
 |.tg f _=>[f]
 |.call _ _ _ reg=>CT reg
 |.own _ _ _ id _=>[id]
 |.sf _ _ id=>[id]
 |_=>[]
def Bw:List Operand→List (Sh×bw)→Bool
 |[],[]=>true
 |y::ys,(_,x)::xs=>bU y x&&Bw ys xs
 |_,_=>false
def CV:List Operand→List (Sh×Sh×bw)→Bool
 |[],[]=>true
 |y::ys,(_,_,x)::xs=>bU y x&&CV ys xs
 |_,_=>false
theorem Pv:∀{ys:List Operand} {xs:List (Sh×Sh×bw)},CV ys xs=true→xs.length=ys.length∧∀(i:Nat) rs sh x y,xs[i]?=some (rs,sh,x)→ys[i]?=some y→bU y x=true
 |[],[],_=>by simp
 |[],_::_,h=>by simp[CV]at h
 |_::_,[],h=>by simp[CV]at h
 |y::ys,(rs,sh,x)::xs,h=>by
  simp only[CV,bS]at h;obtain⟨p,q⟩:=Pv h.2;refine⟨by simp[p],fun i zH zL x' y' hx hy=>?_⟩
  cases i with
  |zero=>simp at hx hy;obtain⟨_,_,rfl⟩:=hx;subst hy;exact h.1
  |succ i=>exact q i zH zL x' y' (by simpa using hx) (by simpa using hy)
def ER:List Operand→List bw→Bool
 |[],[]=>true
 |y::ys,x::xs=>bU y x&&ER ys xs
 |_,_=>false
def KX:Option Operand→Option bw→Bool
 |none,none=>true
 |some y,some x=>bU y x
 |_,_=>false
def ES(P:Program)(t:TypeId)(cells:List V):Bool :=
 match (P.info? t).bind (·.zero) with
 |some z=>vq z.cells.toList cells
 |none=>false
def CW(P:Program)(t:TypeId)(n:Nat):Bool :=
 match P.underlying t with
 |some (.slice e)=>match P.info? e with
  |some i=>match i.zero with
   |some z=>i.size==n&&z.cells.size==n&&Nat.ble i.bytes 32768&&Nat.blt 0 n
   |none=>false
  |none=>false
 |_=>false
def Pw(P:Program)(t:TypeId)(mx:Nat):Bool :=
 match P.underlying t with
 |some (.slice e)=>match P.info? e with
  |some i=>Nat.ble mx 140737488355328&&Nat.ble (mx*i.bytes) 140737488355328
  |none=>false
 |_=>false
def KY(P:Program)(t:TypeId)(ag:Bool)(ks:List Nat):Bool :=
 match P.underlying t with
 |some (.map kt _)=>qy P 100 kt==some ks&&lp P kt==some ag&&e9 P kt==some ks.length
 |_=>false
theorem W0{P:Program}{t:TypeId}{ag:Bool}{ks:List Nat}(h:KY P t ag ks=true):∃kt et,P.underlying t=some (.map kt et)∧yF P kt ag ks:=by
 unfold KY at h;split at h
 ·rename_i kt et hu
  simp only[bS,dO]at h;exact⟨kt,et,hu,⟨h.1.1,h.1.2,h.2⟩⟩
 ·cases h
def W1(P:Program)(t:TypeId)(zero:V):Bool :=
 match P.underlying t with
 |some (.map _ et)=>Px P et zero
 |_=>false
structure Ps where
 sh:List (Nat×Nat)
 pk:Pk
structure w8(P:Program)(T:Pk)(ps:Ps):Prop where
 sh:∀f k,look f ps.sh=some k→JP P k f
 pk:∀p∈ps.pk,p∈T
def Py(P:Program)(ps:Ps)(o:Oper)(vo:VO):Bool :=
 match vo,o.op with
 |.mv x,.move y=>bU y x
 |.mv x,.assign y=>bU y x
 |.pick c a b,.pick c' a' b'=>bU c' c&&bU a' a&&bU b' b
 |.obj _ cells,.alloc t=>ES P t cells
 |.box _ x,.box _ y=>bU y x
 |.u7 _ x,.box _ y=>bU y x
 |.u9 _ zero,.alloc t=>ES P t zero
 |.vb,.makeMap _ none=>true
 |.wJ ag ks zero ok x k,.lookup t p q W2=>KY P t ag ks&&W1 P t zero&&ok==W2&&bU p x&&bU q k
 |.vd ag ks _ x k y,.mapUpdate t p q r=>o.dst.isNone&&KY P t ag ks&&bU p x&&bU q k&&bU r y
 |.build zero qs,.build t ps=>ES P t zero&&(match placeOf P t with|some pl=>CK pl ps.toList qs|none=>false)
 |.lit _ sh zero len qs,.buildSlice t n ps=>CW P t sh.length&&len==n&&Nat.blt 0 len&&Nat.ble (len*sh.length) 16777216&&CM len ps.toList qs &&
  (match P.underlying t with|some (.slice e)=>(match (P.info? e).bind (·.zero) with|some z=>vv z.cells.toList sh zero|none=>false)|_=>false)
 |.lit none sh zero len [],.makeSlice t y z=>CW P t sh.length&&Nat.ble len 65536&&bU y (.c (.int .i64 len))&&bU z (.c (.int .i64 len)) &&
  (match P.underlying t with|some (.slice e)=>(match (P.info? e).bind (·.zero) with|some z=>vv z.cells.toList sh zero|none=>false)|_=>false)
 |.load _ sz x,.load t y=>sx P t sz&&bU y x
 |.store _ sh x z,.store t y u=>o.dst.isNone&&e9 P t==some sh.length&&bU y x&&bU u z
 |.uf x,.nilCheck y=>bU y x
 |.bin op x y,.binOp w9 _ p q _=>decide (op=w9)&&bU p x&&bU q y
 |.beq neg x y,.binOp w9 t p q _=>decide (w9=if neg then .neq else .eql)&&(match P.underlying t with|some .bool=>true|_=>false)&&bU p x&&bU q y
 |.iE neg ks x y,.binOp w9 t p q _=>decide (w9=if neg then .neq else .eql)&&qy P 100 t==some ks&&lp P t==some true && !P.eqGuardType P.depth t&&e9 P t==some ks.length&&bU p x&&bU q y
 |.un op x,.unOp w9 _ y=>decide (op=w9)&&bU y x
 |.conv k x,.convert s t y=>(P.underlying s).isSome&&(match P.underlying t with|some (.int k')=>decide (k'=k)|_=>false)&&bU y x
 |.ti off x,.fieldAddr s y fi=>bU y x&&(match P.underlying s with
  |some (.struct fs)=>(match fs[fi]? with|some f=>f.offset==off&&(match e9 P f.type with|some n=>n != 0|none=>false)|none=>false)
  |_=>false)
 |.ov (some n) sz x i,.indexAddr t y j=>(bU y x || ON ps.pk y x)&&bU j i&&(match P.underlying t with|some (.array len e)=>len==n&&e9 P e==some sz|_=>false)
 |.ov none sz x i,.indexAddr t y j=>bU y x&&bU j i&&(match P.underlying t with|some (.slice e)=>e9 P e==some sz|_=>false)
 |.idx n sz ag x i,.index t y j=>bU y x&&bU j i&&(match P.underlying t with|some (.array len e)=>len==n&&e9 P e==some sz&&sx P e (bif ag then some sz else none)|_=>false)
 |.field off sz x,.field t y fi=>bU y x&&(match P.underlying t with
  |some (.struct fs)=>(match fs[fi]? with|some f=>f.offset==off&&sx P f.type sz|none=>false)
  |_=>false)
 |.len x,.call ⟨.builtin .len,args,ts⟩=>(match args.toList with | [y]=>bU y x|_=>false)&&(match ts[0]? with|some t=>(match P.underlying t with|some (.slice _)=>true|_=>false)|none=>false)
 |.vj x,.call ⟨.builtin .len,args,ts⟩=>(match args.toList with | [y]=>bU y x|_=>false)&&(match ts[0]? with|some t=>(match P.underlying t with|some .string=>true|_=>false)|none=>false)
 |.app _ _ _ sh mx x y,.call ⟨.builtin .append,args,ts⟩=>(match args.toList with | [p,q]=>bU p x&&bU q y|_=>false)&&(match ts.toList with | [t,u]=>t==u&&CW P t sh.length&&Pw P t mx|_=>false)
 |.tj _ _ _ sh x y,.call ⟨.builtin .append,args,ts⟩=>(match args.toList with | [p,q]=>bU p x&&bU q y|_=>false)&&(match ts.toList with | [t,u]=>t==u&&CW P t sh.length|_=>false)
 |.ext x i,.extract y j=>bU y x&&i==j
 |.call _ f args reg,.call ⟨.value g,as,_⟩=>bU g f&&Bw as.toList args&&inj reg
 |.grow f _ x,.call ⟨.value g,as,_⟩=>look f ps.sh==some 2&&jq f==f&&bU g (.c (.fn f []))&&(match as.toList with | [p,q]=>bU p (.c .cb)&&bU q x|_=>false)
 |.wK x,.call ⟨.builtin .cap,args,ts⟩=>(match args.toList with | [y]=>bU y x|_=>false)&&(match ts[0]? with|some t=>(match P.underlying t with|some (.slice _)=>true|_=>false)|none=>false)
 |.vg _ _ x y,.call ⟨.builtin .copy,args,ts⟩=>(match args.toList with | [p,q]=>bU p x&&bU q y|_=>false)&&(match ts.toList with | [t,_]=>(match P.underlying t with|some (.slice e)=>e9 P e==some 1|_=>false)|_=>false)
 |.vh x,.call ⟨.builtin .clear,args,ts⟩=>(match args.toList with | [p]=>bU p x|_=>false)&&(match ts.toList with | [t]=>(match P.underlying t with|some (.slice e)=>(match P.info? e with|some ie=>(match ie.zero with|some (.int .i64 0)=>true|_=>false)|none=>false)|_=>false)|_=>false)
 |.wM k f _ x,.call ⟨.value g,as,_⟩=>look f ps.sh==some k&&k != 2&&jq f==f&&bU g (.c (.fn f []))&&(match as.toList with | [q]=>bU q x|_=>false)
 |.own f args _ _ _,.call ⟨.value g,as,_⟩=>bU g f&&CV as.toList args
 |.arr n sz x,.slice t y none none none=>bU y x&&(match P.underlying t with|some (.array k e)=>k==n&&e9 P e==some sz|_=>false)
 |.sf f args _,.call ⟨.value g,as,_⟩=>bU g f&&Bw as.toList args&&o.dst.isSome
 |.sd f args,.call ⟨.value g,as,_⟩=>bU g f&&Bw as.toList args
 |.ug _ zero x,.makeSlice t y z=>bU y x&&bU z x&&CW P t zero.length&&(match P.underlying t with|some (.slice e)=>ES P e zero|_=>false)
 |.wN sz x lo hi,.slice t y l h none=>bU y x&&KX l lo&&KX h hi&&(match P.underlying t with|some (.slice e)=>e9 P e==some sz|_=>false)
 |.vl mx x y z,.call ⟨.builtin b,args,_⟩=>decide (b=if mx then .max else .min)&&(match args.toList with | [p,q,r]=>bU p x&&bU q y&&bU r z|_=>false)
 |.mm mx x y,.call ⟨.builtin b,args,_⟩=>decide (b=if mx then .max else .min)&&(match args.toList with | [p,q]=>bU p x&&bU q y|_=>false)
 |.wO f cap,.makeFunc (.func g) first zC=>jq f==g&&first.isEmpty&&ER zC.toList cap
 |.se f args _,.call ⟨.value g,as,_⟩=>bU g f&&CV as.toList args
 |.y8 _,.buildSlice t n ps=>n==0&&ps.isEmpty&&(match P.underlying t with|some (.slice e)=>(e9 P e).isSome|_=>false)
 |.wL neg x,.binOp op t p q _=>decide (op=if neg then .neq else .eql)&&(match P.underlying t with|some (.slice _)=>true|_=>false)&&bU p x&&bU q (.c .cb)
 |.tg _ x,.load t y=>sx P t none&&bU y x
 |.vi _ x z,.store t y u=>o.dst.isNone&&e9 P t==some 1&&bU y x&&bU u z
 |_,_=>false
theorem HP:∀{ys:List Operand} {xs:List (Sh×bw)},Bw ys xs=true→xs.length=ys.length∧∀(i:Nat) sh x y,xs[i]?=some (sh,x)→ys[i]?=some y→bU y x=true
 |[],[],_=>by simp
 |[],_::_,h=>by simp[Bw]at h
 |_::_,[],h=>by simp[Bw]at h
 |y::ys,(sh,x)::xs,h=>by
  simp only[Bw,bS]at h;obtain⟨p,q⟩:=HP h.2;refine⟨by simp[p],fun i zL x' y' hx hy=>?_⟩
  cases i with
  |zero=>simp at hx hy;obtain⟨_,rfl⟩:=hx;subst hy;exact h.1
  |succ i=>exact q i zL x' y' (by simpa using hx) (by simpa using hy)
theorem W3:∀{ys:List Operand} {xs:List bw},ER ys xs=true→xs.length=ys.length∧∀(i:Nat) x y,xs[i]?=some x→ys[i]?=some y→bU y x=true
 |[],[],_=>by simp
 |[],_::_,h=>by simp[ER]at h
 |_::_,[],h=>by simp[ER]at h
 |y::ys,x::xs,h=>by
  simp only[ER,bS]at h;obtain⟨p,q⟩:=W3 h.2;refine⟨by simp[p],fun i x' y' hx hy=>?_⟩
  cases i with
  |zero=>simp at hx hy;subst hx;subst hy;exact h.1
  |succ i=>exact q i x' y' (by simpa using hx) (by simpa using hy)
theorem KZ{P:Program}{t:TypeId}{cells:List V}(h:ES P t cells=true):∃i z,P.info? t=some i∧i.zero=some z∧vq z.cells.toList cells=true:=by
 unfold ES at h;cases hi:P.info? t with
 |none=>simp[hi]at h
 |some i =>
  cases hz:i.zero with
  |none=>simp[hi,hz]at h
  |some z=>simp[hi,hz]at h;exact⟨i,z,rfl,hz,h⟩
theorem aiV{P:Program}{t e:TypeId}{mx:Nat}(h:Pw P t mx=true)(he:P.underlying t=some (.slice e)):mx≤140737488355328∧∀i,P.info? e=some i→mx*i.bytes≤140737488355328:=by
 unfold Pw at h;rw[he]at h;simp only at h;split at h
 ·rename_i i hi
  simp only[bS]at h;refine⟨il h.1,fun i' pT=>?_⟩;rw[hi]at pT;cases pT;exact il h.2
 ·cases h
theorem HQ{P:Program}{t:TypeId}{n:Nat}(h:CW P t n=true):∃e i z,P.underlying t=some (.slice e)∧P.info? e=some i∧i.zero=some z∧i.size=n∧z.cells.size=n∧i.bytes≤32768∧0<n:=by
 unfold CW at h;split at h
 ·rename_i e hu
  split at h
  ·rename_i i hi
   split at h
   ·rename_i z hz
    simp only[bS,dO]at h;exact⟨e,i,z,hu,hi,hz,h.1.1.1,h.1.1.2,il h.1.2,il h.2⟩
   ·cases h
  ·cases h
 ·cases h
section
variable {P:Program} {E:Entry} {g g':Gh} {S S':St} {a:Act} {w w':World}
theorem aiW{ps:Ps}(jj:w8 P E.T ps){o:Oper}{vo:VO}{C:bD}(bu:Py P ps o vo=true)
  (hC:∀f args G r G',C f args G=some (r,G')→vw P E.T f args G r G')
  (hn:∀n∈vo.names,S.eN n) (zN:∀id x v,vo=.box id x→S.ev x=some v→v.cq id=false)
  (hR:R E g S a w) (hd:∀d,o.dst=some d→d<E.nt) (hrun:VO.run C o.dst S vo=some S'):ch P E o S S' a w:=by
 unfold Py at bu;split at bu
 ·rename_i x y ho;exact Wi (.inl ho) bu hR hd hrun
 ·rename_i x y ho;exact Wi (.inr ho) bu hR hd hrun
 ·rename_i c p q c' p' q' ho
  simp only[bS]at bu;exact ahH ho bu.1.1 bu.1.2 bu.2 hR hd hrun
 ·rename_i id cells t ho
  obtain⟨i,z,h1,h2,h3⟩:=KZ bu;exact ah7 ho h1 h2 h3 (hn id (by simp[VO.names])) hR hd hrun
 ·rename_i id x t y ho
  exact ah8 ho bu (hn id (by simp[VO.names])) (fun v hv=>zN id x v rfl hv) hR hd hrun
 ·rename_i sh x t y ho
  exact aiy ho bu hR hd hrun
 ·rename_i sh zero t ho
  obtain⟨i,z,h1,h2,h3⟩:=KZ bu;exact aiX ho h1 h2 h3 hR hd hrun
 ·rename_i t ho
  exact aiY ho hR hd hrun
 ·rename_i ag ks zero ok x k t p q W2 ho
  simp only[bS,dO]at bu;obtain⟨⟨⟨⟨h1,h2⟩,rfl⟩,h4⟩,h5⟩:=bu;obtain⟨kt,et,hu,hk⟩:=W0 h1;simp only[W1,hu]at h2;exact aiZ ho hu hk h2 h4 h5 hR hd hrun
 ·rename_i ag ks sh x k y t p q r ho
  simp only[bS,Em]at bu;obtain⟨⟨⟨⟨h1,h2⟩,h3⟩,h4⟩,h5⟩:=bu;obtain⟨kt,et,hu,hk⟩:=W0 h2;exact ai0 ho h1 hu hk h3 h4 h5 hR (by rw[h1]at hrun;exact h1 ▸ hrun)
 ·rename_i zero qs t ps ho
  simp only[bS]at bu;obtain⟨i,z,h1,h2,h3⟩:=KZ bu.1;have h4:=bu.2;split at h4
  ·rename_i pl my;exact ail ho h1 h2 my h3 h4 hR hd hrun
  ·cases h4
 ·rename_i tok sh zero len qs t n ps ho
  simp only[bS,dO]at bu;obtain⟨⟨⟨⟨⟨h1,h2⟩,h3⟩,h4⟩,h5⟩,h6⟩:=bu;subst h2;obtain⟨e,i,z,q1,q2,q3,q4,q5,q6,q7⟩:=HQ h1;simp only[q1,q2,q3,G7]at h6;exact aio ho q1 q2 q3 q4 q5 q7 (il h3) (il h4) h6 h5 (fun f hf=>hn f (by subst hf;simp[VO.names])) hR hd hrun
 ·rename_i sh zero len t y z ho
  simp only[bS]at bu;obtain⟨⟨⟨⟨h1,h2⟩,h3⟩,h4⟩,h6⟩:=bu;obtain⟨e,i,z,q1,q2,q3,q4,q5,q6,q7⟩:=HQ h1;simp only[q1,q2,q3,G7]at h6;exact ais ho q1 q2 q3 q4 q5 q6 q7 (il h2) h6 h3 h4 hR hd hrun
 ·rename_i root sz x t y ho
  simp only[bS]at bu;exact ah4 ho bu.1 bu.2 hR hd hrun
 ·rename_i root sh x z t y u ho
  simp only[bS,dO,Em]at bu;exact aix ho bu.1.1.1 bu.1.1.2 bu.1.2 bu.2 hR (by rw[bu.1.1.1]at hrun;exact bu.1.1.1 ▸ hrun)
 ·rename_i x y ho;exact ahR ho bu hR hd hrun
 ·rename_i op x y w9 t p q t' ho
  simp only[bS,iD]at bu;obtain⟨⟨rfl,h1⟩,h2⟩:=bu;exact ahO ho h1 h2 hR hd hrun
 ·rename_i neg x y w9 t p q t' ho
  simp only[bS,iD]at bu;obtain⟨⟨⟨rfl,h0⟩,h1⟩,h2⟩:=bu;split at h0
  ·rename_i hu;exact ahN ho hu h1 h2 hR hd hrun
  ·cases h0
 ·rename_i neg ks x y w9 t p q t' ho
  simp only[bS,iD,dO,uV]at bu;obtain⟨⟨⟨⟨⟨⟨rfl,h0⟩,h1⟩,h2⟩,h3⟩,h4⟩,h5⟩:=bu;exact ai1 ho h0 h1 h2 h3 h4 h5 hR hd hrun
 ·rename_i op x w9 t y ho
  simp only[bS,iD]at bu;obtain⟨rfl,h1⟩:=bu;exact ahP ho h1 hR hd hrun
 ·rename_i k x s t y ho
  simp only[bS,OK]at bu;obtain⟨⟨⟨d,h0⟩,h1⟩,h2⟩:=bu;split at h1
  ·rename_i k' hu
   have:=G8 h1;subst this;exact ahQ ho h0 hu h2 hR hd hrun
  ·cases h1
 ·rename_i off x s y fi ho
  simp only[bS]at bu;obtain⟨h0,h1⟩:=bu;split at h1
  ·rename_i fs hu
   split at h1
   ·rename_i f hf
    simp only[bS,dO]at h1;obtain⟨h2,h3⟩:=h1;split at h3
    ·rename_i n eg;exact ahS ho hu hf eg (by simpa using h3) h2 h0 hR hd hrun
    ·cases h3
   ·cases h1
  ·cases h1
 ·rename_i n sz x i t y j ho
  simp only[bS]at bu;obtain⟨⟨h0,h1⟩,h2⟩:=bu;split at h2
  ·rename_i len e hu
   simp only[bS,dO]at h2;obtain⟨rfl,h3⟩:=h2;refine ahT ho hu h3 hR (fun v hv=>?_) h1 hd hrun;rcases Cf _ _ ▸ h0 with h0|h0
   ·exact cY hR h0 hv
   ·exact ahB jj.pk hR h0 hv
  ·cases h2
 ·rename_i sz x i t y j ho
  simp only[bS]at bu;obtain⟨⟨h0,h1⟩,h2⟩:=bu;split at h2
  ·rename_i e hu
   exact ahU ho hu (eq_of_beq h2) h0 h1 hR hd hrun
  ·cases h2
 ·rename_i n sz ag x i t y j ho
  simp only[bS]at bu;obtain⟨⟨h0,h1⟩,h2⟩:=bu;split at h2
  ·rename_i len e hu
   simp only[bS,dO]at h2;obtain⟨⟨rfl,h3⟩,h4⟩:=h2;exact ah6 ho hu h4 h3 h0 h1 hR hd hrun
  ·cases h2
 ·rename_i off sz x t y fi ho
  simp only[bS]at bu;obtain⟨h0,h1⟩:=bu;split at h1
  ·rename_i fs hu
   split at h1
   ·rename_i f hf
    simp only[bS,dO]at h1;exact ah5 ho hu hf h1.1 h1.2 h0 hR hd hrun
   ·cases h1
  ·cases h1
 ·rename_i x args ts ho
  simp only[bS]at bu;obtain⟨h0,h1⟩:=bu;split at h0
  ·rename_i y hy
   split at h1
   ·rename_i t ht
    split at h1
    ·rename_i e hu
     have:args = #[y]:=by apply m8;simpa using hy
     subst this;exact ahV ho ht hu h0 hR hd hrun
    ·cases h1
   ·cases h1
  ·cases h0
 ·rename_i x args ts ho
  simp only[bS]at bu;obtain⟨h0,h1⟩:=bu;split at h0
  ·rename_i y hy
   split at h1
   ·rename_i t ht
    split at h1
    ·rename_i hu
     have:args = #[y]:=by apply m8;simpa using hy
     subst this;exact ahX ho ht hu h0 hR hd hrun
    ·cases h1
   ·cases h1
  ·cases h0
 ·rename_i cj src oy sh mx x y args ts ho
  simp only[bS]at bu;obtain⟨h0,h1⟩:=bu;split at h0
  ·rename_i p q vA
   split at h1
   ·rename_i t u Pz
    simp only[bS,dO]at h1 h0;obtain⟨⟨rfl,h2⟩,h5⟩:=h1;obtain⟨e,i,z,q1,q2,q3,q4,q5,q6,q7⟩:=HQ h2;have e1:args = #[p,q]:=by apply m8;simpa using vA
    have e2:ts = #[t,t]:=by apply m8;simpa using Pz
    subst e1;subst e2;exact aif (aiV h5 q1) ho q1 ⟨⟨i,z,q2,q3,q4,q5,q6⟩,q7⟩ h0.1 h0.2 (hn cj (by simp[VO.names])) hR hd hrun
   ·cases h1
  ·cases h0
 ·rename_i nw src oy sh x y args ts ho
  simp only[bS]at bu;obtain⟨h0,h1⟩:=bu;split at h0
  ·rename_i p q vA
   split at h1
   ·rename_i t u Pz
    simp only[bS,dO]at h1 h0;obtain⟨rfl,h2⟩:=h1;obtain⟨e,i,z,q1,q2,q3,q4,q5,q6,q7⟩:=HQ h2;have e1:args = #[p,q]:=by apply m8;simpa using vA
    have e2:ts = #[t,t]:=by apply m8;simpa using Pz
    subst e1;subst e2;exact ai2 ho q1 ⟨⟨i,z,q2,q3,q4,q5,q6⟩,q7⟩ h0.1 h0.2 (hn nw (by simp[VO.names])) hR hd hrun
   ·cases h1
  ·cases h0
 ·rename_i x i y j ho
  simp only[bS,dO]at bu;obtain⟨h0,rfl⟩:=bu;exact ahY ho h0 hR hd hrun
 ·rename_i alone f args reg gg as ts ho
  simp only[bS]at bu;have vy:∀p f,look p reg=some f→S.eN f:=fun p f hp=>hn f (by
   simp only[VO.names,CT];exact kP.2 ⟨(p,f),vx hp,rfl⟩)
  cases alone
  ·exact WU ho bu.1.1 (HP bu.1.2) hC bu.2 vy hR hd hrun
  ·exact aiS ho bu.1.1 (HP bu.1.2) hC bu.2 vy hR hd hrun
 ·rename_i f id x gg as ts ho
  simp only[bS,dO]at bu;obtain⟨⟨⟨h0,sE⟩,h1⟩,h2⟩:=bu;split at h2
  ·rename_i p q hq
   simp only[bS]at h2;have e:as = #[p,q]:=by apply m8;simpa using hq
   subst e;refine ai3 ho ?_ h2.1 h2.2 (jj.sh f 2 h0) (hn id (by simp[VO.names])) hR hd hrun
   have hr:=cY (v:=.fn f []) hR h1 rfl;generalize a.eval gg=y at hr;cases hr with
   |plain h _=>cases h
   |fn _ _ xs hl hx =>
    have:xs = #[]:=by
     apply D7;simpa using hl.symm
    rw[this,sE]
  ·cases h2
 ·rename_i x args ts ho
  simp only[bS]at bu;obtain⟨h0,h1⟩:=bu;split at h0
  ·rename_i y hy
   have e:args = #[y]:=by apply m8;simpa using hy
   subst e;split at h1
   ·rename_i t ht
    split at h1
    ·rename_i e hu;exact ahW ho ht hu h0 hR hd hrun
    ·cases h1
   ·cases h1
  ·cases h0
 ·rename_i id src x y args ts ho
  simp only[bS]at bu;obtain⟨h0,h1⟩:=bu;split at h0
  ·rename_i p q vA
   simp only[bS]at h0;have e:args = #[p,q]:=by apply m8;simpa using vA
   subst e;split at h1
   ·rename_i t t2 ht
    have e2:ts = #[t,t2]:=by apply m8;simpa using ht
    subst e2;split at h1
    ·rename_i e hu;exact ai4 ho hu (eq_of_beq h1) h0.1 h0.2 hR hd hrun
    ·cases h1
   ·cases h1
  ·cases h0
 ·rename_i x args ts ho
  simp only[bS]at bu;obtain⟨h0,h1⟩:=bu;split at h0
  ·rename_i p vA
   have e:args = #[p]:=by apply m8;simpa using vA
   subst e;split at h1
   ·rename_i t ht
    have e2:ts = #[t]:=by apply m8;simpa using ht
    subst e2;split at h1
    ·rename_i e hu
     split at h1
     ·rename_i ie Hx
      split at h1
      ·rename_i hz;exact ai5 ho hu Hx hz h0 hR hd hrun
      ·cases h1
     ·cases h1
    ·cases h1
   ·cases h1
  ·cases h0
 ·rename_i k f _ x gg as ts ho
  simp only[bS,dO,bne_iff_ne,ne_eq]at bu;obtain⟨⟨⟨⟨h0,pd⟩,sE⟩,h1⟩,h2⟩:=bu;split at h2
  ·rename_i q hq
   have e:as = #[q]:=by apply m8;simpa using hq
   subst e;have hmk:PA P k f:=by
    have:=jj.sh f k h0;unfold JP at this;split at this
    ·exact absurd rfl pd
    ·exact this
   refine ai7 ho ?_ h2 hmk hR hd (by simpa only[VO.run] using hrun)
   have hr:=cY (v:=.fn f []) hR h1 rfl;generalize a.eval gg=y at hr;cases hr with
   |plain h _=>cases h
   |fn _ _ xs hl hx =>
    have:xs = #[]:=by
     apply D7;simpa using hl.symm
    rw[this,sE]
  ·cases h2
 ·rename_i f args ids id pos gg as ts ho
  simp only[bS]at bu;exact PB ho bu.1 (Pv bu.2) hC (hn id (by simp[VO.names])) hR hd hrun
 ·rename_i n sz x t y ho
  simp only[bS]at bu;obtain⟨h1,h2⟩:=bu;split at h2
  ·rename_i k e hu
   simp only[bS,dO]at h2;obtain⟨rfl,h3⟩:=h2;exact aiK ho hu h3 h1 hR hd hrun
  ·cases h2
 ·rename_i f args id gg as ts ho
  simp only[bS]at bu;exact ai8 ho bu.1.1 (HP bu.1.2) hC (hn id (by simp[VO.names])) bu.2 hR hd hrun
 ·rename_i f args gg as ts ho
  simp only[bS]at bu;exact WU (reg:=[]) ho bu.1 (HP bu.2) hC rfl (by intro p f h;cases h) hR hd (WZ hrun)
 ·rename_i id zero x t y z ho
  simp only[bS]at bu;obtain⟨⟨⟨h0,h1⟩,h2⟩,h3⟩:=bu;obtain⟨e,i,z,q1,q2,q3,q4,q5,q6,q7⟩:=HQ h2;simp only[q1]at h3;obtain⟨i',z',r1,r2,r3⟩:=KZ h3;rw[q2]at r1;cases r1;rw[q3]at r2;cases r2;exact air ho q1 q2 q3 q4 (by omega) q6 r3 h0 h1 (hn id (by simp[VO.names])) hR hd hrun
 ·rename_i sz x lo hi t y l h ho
  simp only[bS]at bu;obtain⟨⟨⟨h0,h1⟩,h2⟩,h3⟩:=bu;split at h3
  ·rename_i e hu
   refine aiL ho hu (eq_of_beq h3) h0 ?_ ?_ hR hd hrun
   ·unfold KX at h1;split at h1<;>first|trivial|exact h1|cases h1
   ·unfold KX at h2;split at h2<;>first|trivial|exact h2|cases h2
  ·cases h3
 ·rename_i mx x y z b args ts ho
  simp only[bS,iD]at bu;obtain⟨rfl,h1⟩:=bu;split at h1
  ·rename_i p q r vA
   simp only[bS]at h1;have e1:args = #[p,q,r]:=by apply m8;simpa using vA
   subst e1;exact ah0 ho h1.1.1 h1.1.2 h1.2 hR hd hrun
  ·cases h1
 ·rename_i mx x y b args ts ho
  simp only[bS,iD]at bu;obtain⟨rfl,h1⟩:=bu;split at h1
  ·rename_i p q vA
   simp only[bS]at h1;have e1:args = #[p,q]:=by apply m8;simpa using vA
   subst e1;exact ahZ ho h1.1 h1.2 hR hd hrun
  ·cases h1
 ·rename_i f cap gg first zC ho
  simp only[bS,dO,VF]at bu;obtain⟨⟨rfl,rfl⟩,h2⟩:=bu;obtain⟨q1,q2⟩:=W3 h2;exact ah1 ho ⟨by simpa using q1,fun i x y hx hy=>q2 i x y hx (by simpa using hy)⟩ hR hd hrun
 ·rename_i f args ids gg as ts ho
  simp only[bS]at bu;exact ai9 ho bu.1 (Pv bu.2) hC hR hd hrun
 ·rename_i n t m ps ho
  simp only[bS,dO,VF]at bu;obtain⟨⟨rfl,rfl⟩,h⟩:=bu;split at h
  ·rename_i e hu
   obtain⟨k,hk⟩:=OK.1 h;exact aiz ho hu hk hR hd hrun
  ·cases h
 ·rename_i neg x op t p q ty ho
  simp only[bS,iD]at bu;obtain⟨⟨⟨h1,h2⟩,h3⟩,h4⟩:=bu;split at h2
  ·rename_i e hu
   exact aiA ho h1 hu h3 h4 hR hd hrun
  ·cases h2
 ·rename_i cj x t y ho
  simp only[bS]at bu;exact aiB ho bu.1 bu.2 (hn cj (by simp[VO.names])) hR hd hrun
 ·rename_i cj x z t y u ho
  simp only[bS,dO,Em]at bu;exact aiH ho bu.1.1.1 bu.1.1.2 bu.1.2 bu.2 hR (by rw[bu.1.1.1]at hrun;exact bu.1.1.1 ▸ hrun)
 ·cases bu
end
end Go.Vm
