/- - -/
import Derived.Test.YtabckmbjnjnegaaGreatDoorVmU
import Derived.Test.YtabckmbjnjnegaaGreatDoorVmS
namespace Go.Vm
set_option linter.all false
def VO.names:VO->List Nat
 |.obj id _ | .box id _ | .xy id _ _=>[id]
 |.grow _ id _=>[id]
 |.lit (some f) _ _ _ _=>[f]
 |.app f _ _ _ _ _ _=>[f]
 |.wB f _ _ _ _ _=>[f]
 |.vt f _=>[f]
 |.call _ _ _ reg=>EP reg
 |.own _ _ _ id _=>[id]
 |.vv _ _ id=>[id]
 |_=>[]
def Di:List Operand->List (Sh×bG)->Bool
 |[],[]=>true
 |y::ys,(_,x)::xs=>cc y x&&Di ys xs
 |_,_=>false
def ER:List Operand->List (Sh×Sh×bG)->Bool
 |[],[]=>true
 |y::ys,(_,_,x)::xs=>cc y x&&ER ys xs
 |_,_=>false
def SW:∀{ys:List Operand} {xs:List (Sh×Sh×bG)},ER ys xs=true->xs.length=ys.length/\∀(i:Nat) rs sh x y,xs[i]?=some (rs,sh,x)->ys[i]?=some y->cc y x=true
 |[],[],_=>by simp
 |[],_::_,h=>by simp[ER]at h
 |_::_,[],h=>by simp[ER]at h
 |y::ys,(rs,sh,x)::xs,h=>by
  simp only[ER,bZ]at h;obtain⟨p,q⟩:=SW h.2;refine⟨by simp[p],λi Bi Bo x' y' hx hy=>?_⟩
  cases i with
  |zero=>simp at hx hy;obtain⟨_,_,rfl⟩:=hx;subst hy;exact h.1
  |succ i=>exact q i Bi Bo x' y' (by simpa using hx) (by simpa using hy)
def Hd:List Operand->List bG->Bool
 |[],[]=>true
 |y::ys,x::xs=>cc y x&&Hd ys xs
 |_,_=>false
def NM:Option Operand->Option bG->Bool
 |none,none=>true
 |some y,some x=>cc y x
 |_,_=>false
def He(P:Program)(t:TypeId)(cells:List V):Bool :=
 match (P.info? t).bind (·.zero) with
 |some z=>xE z.cells.toList cells
 |none=>false
def ES(P:Program)(t:TypeId)(n:Nat):Bool :=
 match P.underlying t with
 |some (.slice e)=>match P.info? e with
  |some i=>match i.zero with
   |some z=>i.size==n&&z.cells.size==n&&Nat.ble i.bytes 32768&&Nat.blt 0 n
   |none=>false
  |none=>false
 |_=>false
def SX(P:Program)(t:TypeId)(mx:Nat):Bool :=
 match P.underlying t with
 |some (.slice e)=>match P.info? e with
  |some i=>Nat.ble mx 140737488355328&&Nat.ble (mx*i.bytes) 140737488355328
  |none=>false
 |_=>false
def NN(P:Program)(t:TypeId)(ag:Bool)(ks:List Nat):Bool :=
 match P.underlying t with
 |some (.map kt _)=>s9 P 100 kt==some ks&&mO P kt==some ag&&fD P kt==some ks.length
 |_=>false
variable{t:TypeId}
def aas{P:Program}{ag:Bool}{ks:List Nat}(h:NN P t ag ks=true):∃kt et,P.underlying t=some (.map kt et)/\Au P kt ag ks:=by
 unfold NN at h;split at h
 next kt et hu=>
  simp only[bZ,ec]at h;exact⟨kt,et,hu,⟨h.1.1,h.1.2,h.2⟩⟩
 .cases h
def aat(P:Program)(t:TypeId)(zero:V):Bool :=
 match P.underlying t with
 |some (.map _ et)=>SY P et zero
 |_=>false
structure Ps where
 sh:List (Nat×Nat)
 pk:Pk
structure yZ(P:Program)(T:Pk)(ps:Ps):Prop where
 sh:∀f k,look f ps.sh=some k->J9 P k f
 pk:∀p∈ps.pk,p∈T
def SZ(P:Program)(ps:Ps)(o:Oper)(vo:VO):Bool :=
 match vo,o.op with
 |.mv x,.move y=>cc y x
 |.mv x,.assign y=>cc y x
 |.pick c a b,.pick c' a' b'=>cc c' c&&cc a' a&&cc b' b
 |.obj _ cells,.alloc t=>He P t cells
 |.box _ x,.box _ y=>cc y x
 |.yB _ x,.box _ y=>cc y x
 |.yC _ zero,.alloc t=>He P t zero
 |.yD,.makeMap _ none=>true
 |.Ac ag ks zero ok x k,.lookup t p q ok'=>NN P t ag ks&&aat P t zero&&ok==ok'&&cc p x&&cc q k
 |.yE ag ks _ x k y,.mapUpdate t p q r=>o.dst.isNone&&NN P t ag ks&&cc p x&&cc q k&&cc r y
 |.build zero qs,.build t ps=>He P t zero&&(match placeOf P t with|some pl=>EF pl ps.toList qs|none=>false)
 |.lit _ sh zero len qs,.buildSlice t n ps=>ES P t sh.length&&len==n&&Nat.blt 0 len&&Nat.ble (len*sh.length) 16777216&&EI len ps.toList qs &&
  (match P.underlying t with|some (.slice e)=>(match (P.info? e).bind (·.zero) with|some z=>xI z.cells.toList sh zero|none=>false)|_=>false)
 |.lit none sh zero len [],.makeSlice t y z=>ES P t sh.length&&Nat.ble len 65536&&cc y (.c (.int .i64 len))&&cc z (.c (.int .i64 len)) &&
  (match P.underlying t with|some (.slice e)=>(match (P.info? e).bind (·.zero) with|some z=>xI z.cells.toList sh zero|none=>false)|_=>false)
 |.load _ sz x,.load t y=>ux P t sz&&cc y x
 |.store _ sh x z,.store t y u=>o.dst.isNone&&fD P t==some sh.length&&cc y x&&cc u z
 |.xu x,.nilCheck y=>cc y x
 |.bin op x y,.binOp y5 _ p q _=>decide (op=y5)&&cc p x&&cc q y
 |.beq neg x y,.binOp y5 t p q _=>decide (y5=if neg then .neq else .eql)&&(match P.underlying t with|some .bool=>true|_=>false)&&cc p x&&cc q y
 |.iI neg ks x y,.binOp y5 t p q _=>decide (y5=if neg then .neq else .eql)&&s9 P 100 t==some ks&&mO P t==some true && !P.eqGuardType P.depth t&&fD P t==some ks.length&&cc p x&&cc q y
 |.un op x,.unOp y5 _ y=>decide (op=y5)&&cc y x
 |.conv k x,.convert s t y=>(P.underlying s).isSome&&(match P.underlying t with|some (.int k')=>decide (k'=k)|_=>false)&&cc y x
 |.xv off x,.fieldAddr s y fi=>cc y x&&(match P.underlying s with
  |some (.struct fs)=>(match fs[fi]? with|some f=>f.offset==off&&(match fD P f.type with|some n=>n != 0|none=>false)|none=>false)
  |_=>false)
 |.r7 (some n) sz x i,.indexAddr t y j=>(cc y x || Sb ps.pk y x)&&cc j i&&(match P.underlying t with|some (.array len e)=>len==n&&fD P e==some sz|_=>false)
 |.r7 none sz x i,.indexAddr t y j=>cc y x&&cc j i&&(match P.underlying t with|some (.slice e)=>fD P e==some sz|_=>false)
 |.field off sz x,.field t y fi=>cc y x&&(match P.underlying t with
  |some (.struct fs)=>(match fs[fi]? with|some f=>f.offset==off&&ux P f.type sz|none=>false)
  |_=>false)
 |.len x,.call ⟨.builtin .len,args,ts⟩=>(match args.toList with | [y]=>cc y x|_=>false)&&(match ts[0]? with|some t=>(match P.underlying t with|some (.slice _)=>true|_=>false)|none=>false)
 |.app _ _ _ sh mx x y,.call ⟨.builtin .append,args,ts⟩=>(match args.toList with | [p,q]=>cc p x&&cc q y|_=>false)&&(match ts.toList with | [t,u]=>t==u&&ES P t sh.length&&SX P t mx|_=>false)
 |.wB _ _ _ sh x y,.call ⟨.builtin .append,args,ts⟩=>(match args.toList with | [p,q]=>cc p x&&cc q y|_=>false)&&(match ts.toList with | [t,u]=>t==u&&ES P t sh.length|_=>false)
 |.ext x i,.extract y j=>cc y x&&i==j
 |.call _ f args reg,.call ⟨.value g,as,_⟩=>cc g f&&Di as.toList args&&inj reg
 |.grow f _ x,.call ⟨.value g,as,_⟩=>look f ps.sh==some 2&&kb f==f&&cc g (.c (.fn f []))&&(match as.toList with | [p,q]=>cc p (.c .cj)&&cc q x|_=>false)
 |.yG _ _ x y,.call ⟨.builtin .copy,args,ts⟩=>(match args.toList with | [p,q]=>cc p x&&cc q y|_=>false)&&(match ts.toList with | [t,_]=>(match P.underlying t with|some (.slice e)=>fD P e==some 1|_=>false)|_=>false)
 |.yH x,.call ⟨.builtin .clear,args,ts⟩=>(match args.toList with | [p]=>cc p x|_=>false)&&(match ts.toList with | [t]=>(match P.underlying t with|some (.slice e)=>(match P.info? e with|some ie=>(match ie.zero with|some (.int .i64 0)=>true|_=>false)|none=>false)|_=>false)|_=>false)
 |.Ad k f _ x,.call ⟨.value g,as,_⟩=>look f ps.sh==some k&&k != 2&&kb f==f&&cc g (.c (.fn f []))&&(match as.toList with | [q]=>cc q x|_=>false)
 |.own f args _ _ _,.call ⟨.value g,as,_⟩=>cc g f&&ER as.toList args
 |.vv f args _,.call ⟨.value g,as,_⟩=>cc g f&&Di as.toList args&&o.dst.isSome
 |.um f args,.call ⟨.value g,as,_⟩=>cc g f&&Di as.toList args
 |.xy _ zero x,.makeSlice t y z=>cc y x&&cc z x&&ES P t zero.length&&(match P.underlying t with|some (.slice e)=>He P e zero|_=>false)
 |.yJ sz x lo hi,.slice t y l h none=>cc y x&&NM l lo&&NM h hi&&(match P.underlying t with|some (.slice e)=>fD P e==some sz|_=>false)
 |.xA mx x y z,.call ⟨.builtin b,args,_⟩=>decide (b=if mx then .max else .min)&&(match args.toList with | [p,q,r]=>cc p x&&cc q y&&cc r z|_=>false)
 |.mm mx x y,.call ⟨.builtin b,args,_⟩=>decide (b=if mx then .max else .min)&&(match args.toList with | [p,q]=>cc p x&&cc q y|_=>false)
 |.yK f cap,.makeFunc (.func g) first Ba=>kb f==g&&first.isEmpty&&Hd Ba.toList cap
 |.vu f args _,.call ⟨.value g,as,_⟩=>cc g f&&ER as.toList args
 |.A7 _,.buildSlice t n ps=>n==0&&ps.isEmpty&&(match P.underlying t with|some (.slice e)=>(fD P e).isSome|_=>false)
 |.yI neg x,.binOp op t p q _=>decide (op=if neg then .neq else .eql)&&(match P.underlying t with|some (.slice _)=>true|_=>false)&&cc p x&&cc q (.c .cj)
 |.vt _ x,.load t y=>ux P t none&&cc y x
 |.xt _ x z,.store t y u=>o.dst.isNone&&fD P t==some 1&&cc y x&&cc u z
 |_,_=>false
def Ka:∀{ys:List Operand} {xs:List (Sh×bG)},Di ys xs=true->xs.length=ys.length/\∀(i:Nat) sh x y,xs[i]?=some (sh,x)->ys[i]?=some y->cc y x=true
 |[],[],_=>by simp
 |[],_::_,h=>by simp[Di]at h
 |_::_,[],h=>by simp[Di]at h
 |y::ys,(sh,x)::xs,h=>by
  simp only[Di,bZ]at h;obtain⟨p,q⟩:=Ka h.2;refine⟨by simp[p],λi Bo x' y' hx hy=>?_⟩
  cases i with
  |zero=>simp at hx hy;obtain⟨_,rfl⟩:=hx;subst hy;exact h.1
  |succ i=>exact q i Bo x' y' (by simpa using hx) (by simpa using hy)
def aav:∀{ys:List Operand} {xs:List bG},Hd ys xs=true->xs.length=ys.length/\∀(i:Nat) x y,xs[i]?=some x->ys[i]?=some y->cc y x=true
 |[],[],_=>by simp
 |[],_::_,h=>by simp[Hd]at h
 |_::_,[],h=>by simp[Hd]at h
 |y::ys,x::xs,h=>by
  simp only[Hd,bZ]at h;obtain⟨p,q⟩:=aav h.2;refine⟨by simp[p],λi x' y' hx hy=>?_⟩
  cases i with
  |zero=>simp at hx hy;subst hx;subst hy;exact h.1
  |succ i=>exact q i x' y' (by simpa using hx) (by simpa using hy)
def NO{P:Program}{cells:List V}(h:He P t cells=true):∃i z,P.info? t=some i/\i.zero=some z/\xE z.cells.toList cells=true:=by
 unfold He at h;cases hi:P.info? t with
 |none=>simp[hi]at h
 |some i =>
  cases hz:i.zero with
  |none=>simp[hi,hz]at h
  |some z=>simp[hi,hz]at h;exact⟨i,z,rfl,hz,h⟩
def ano{P:Program}{e:TypeId}{mx:Nat}(h:SX P t mx=true)(he:P.underlying t=some (.slice e)):mx<=140737488355328/\∀i,P.info? e=some i->mx*i.bytes<=140737488355328:=by
 unfold SX at h;rw[he]at h;simp only at h;split at h
 next i hi=>
  simp only[bZ]at h;refine⟨js h.1,λi' sY=>?_⟩;rw[hi]at sY;cases sY;exact js h.2
 .cases h
def Kb{P:Program}{n:Nat}(h:ES P t n=true):∃e i z,P.underlying t=some (.slice e)/\P.info? e=some i/\i.zero=some z/\i.size=n/\z.cells.size=n/\i.bytes<=32768/\0<n:=by
 unfold ES at h;split at h
 next e hu=>
  split at h
  next i hi=>
   split at h
   next z hz=>
    simp only[bZ,ec]at h;exact⟨e,i,z,hu,hi,hz,h.1.1.1,h.1.1.2,js h.1.2,js h.2⟩
   .cases h
  .cases h
 .cases h
section
variable {P:Program} {E:Entry} {g g':Gh} {S S':St} {a:Act} {w w':World}
def anp{ps:Ps}(jH:yZ P E.T ps){o:Oper}{vo:VO}{C:bI}(bE:SZ P ps o vo=true)
  (hC:∀f args G r G',C f args G=some (r,G')->xJ P E.T f args G r G')
  (hn:∀n∈vo.names,S.fa n) (Br:∀id x v,vo=.box id x->S.ev x=some v->v.cI id=false)
  (hR:R E g S a w) (hd:∀d,o.dst=some d->d<E.nt) (hrun:VO.run C o.dst S vo=some S'):cC P E o S S' a w:=by
 unfold SZ at bE;split at bE
 next x y ho=>exact ZP (.inl ho) bE hR hd hrun
 next x y ho=>exact ZP (.inr ho) bE hR hd hrun
 next c p q c' p' q' ho=>
  simp only[bZ]at bE;exact amb ho bE.1.1 bE.1.2 bE.2 hR hd hrun
 next id cells t ho=>
  obtain⟨i,z,h1,h2,h3⟩:=NO bE;exact amB ho h1 h2 h3 (hn id (by simp[VO.names])) hR hd hrun
 next id x t y ho=>
  exact amC ho bE (hn id (by simp[VO.names])) (λv hv=>Br id x v rfl hv) hR hd hrun
 next sh x t y ho=>
  exact am0 ho bE hR hd hrun
 next sh zero t ho=>
  obtain⟨i,z,h1,h2,h3⟩:=NO bE;exact anq ho h1 h2 h3 hR hd hrun
 next t ho=>
  exact anr ho hR hd hrun
 next ag ks zero ok x k t p q ok' ho=>
  simp only[bZ,ec]at bE;obtain⟨⟨⟨⟨h1,h2⟩,rfl⟩,h4⟩,h5⟩:=bE;obtain⟨kt,et,hu,hk⟩:=aas h1;simp only[aat,hu]at h2;exact ant ho hu hk h2 h4 h5 hR hd hrun
 next ag ks sh x k y t p q r ho=>
  simp only[bZ,GD]at bE;obtain⟨⟨⟨⟨h1,h2⟩,h3⟩,h4⟩,h5⟩:=bE;obtain⟨kt,et,hu,hk⟩:=aas h2;exact anu ho h1 hu hk h3 h4 h5 hR (by rw[h1]at hrun;exact h1 ▸ hrun)
 next zero qs t ps ho=>
  simp only[bZ]at bE;obtain⟨i,z,h1,h2,h3⟩:=NO bE.1;have h4:=bE.2;split at h4
  next pl nZ=>exact amN ho h1 h2 nZ h3 h4 hR hd hrun
  .cases h4
 next tok sh zero len qs t n ps ho=>
  simp only[bZ,ec]at bE;obtain⟨⟨⟨⟨⟨h1,h2⟩,h3⟩,h4⟩,h5⟩,h6⟩:=bE;subst h2;obtain⟨e,i,z,q1,q2,q3,q4,q5,q6,q7⟩:=Kb h1;simp only[q1,q2,q3,Ju]at h6;exact amQ ho q1 q2 q3 q4 q5 q7 (js h3) (js h4) h6 h5 (λf hf=>hn f (by subst hf;simp[VO.names])) hR hd hrun
 next sh zero len t y z ho=>
  simp only[bZ]at bE;obtain⟨⟨⟨⟨h1,h2⟩,h3⟩,h4⟩,h6⟩:=bE;obtain⟨e,i,z,q1,q2,q3,q4,q5,q6,q7⟩:=Kb h1;simp only[q1,q2,q3,Ju]at h6;exact amU ho q1 q2 q3 q4 q5 q6 q7 (js h2) h6 h3 h4 hR hd hrun
 next root sz x t y ho=>
  simp only[bZ]at bE;exact amy ho bE.1 bE.2 hR hd hrun
 next root sh x z t y u ho=>
  simp only[bZ,ec,GD]at bE;exact amZ ho bE.1.1.1 bE.1.1.2 bE.1.2 bE.2 hR (by rw[bE.1.1.1]at hrun;exact bE.1.1.1 ▸ hrun)
 next x y ho=>exact aml ho bE hR hd hrun
 next op x y y5 t p q t' ho=>
  simp only[bZ,jD]at bE;obtain⟨⟨rfl,h1⟩,h2⟩:=bE;exact ami ho h1 h2 hR hd hrun
 next neg x y y5 t p q t' ho=>
  simp only[bZ,jD]at bE;obtain⟨⟨⟨rfl,h0⟩,h1⟩,h2⟩:=bE;split at h0
  next hu=>exact amh ho hu h1 h2 hR hd hrun
  .cases h0
 next neg ks x y y5 t p q t' ho=>
  simp only[bZ,jD,ec,xo]at bE;obtain⟨⟨⟨⟨⟨⟨rfl,h0⟩,h1⟩,h2⟩,h3⟩,h4⟩,h5⟩:=bE;exact anv ho h0 h1 h2 h3 h4 h5 hR hd hrun
 next op x y5 t y ho=>
  simp only[bZ,jD]at bE;obtain⟨rfl,h1⟩:=bE;exact amj ho h1 hR hd hrun
 next k x s t y ho=>
  simp only[bZ,R8]at bE;obtain⟨⟨⟨d,h0⟩,h1⟩,h2⟩:=bE;split at h1
  next k' hu=>
   have:=Jv h1;subst this;exact amk ho h0 hu h2 hR hd hrun
  .cases h1
 next off x s y fi ho=>
  simp only[bZ]at bE;obtain⟨h0,h1⟩:=bE;split at h1
  next fs hu=>
   split at h1
   next f hf=>
    simp only[bZ,ec]at h1;obtain⟨h2,h3⟩:=h1;split at h3
    next n eF=>exact amm ho hu hf eF (by simpa using h3) h2 h0 hR hd hrun
    .cases h3
   .cases h1
  .cases h1
 next n sz x i t y j ho=>
  simp only[bZ]at bE;obtain⟨⟨h0,h1⟩,h2⟩:=bE;split at h2
  next len e hu=>
   simp only[bZ,ec]at h2;obtain⟨rfl,h3⟩:=h2;refine amn ho hu h3 hR (λv hv=>?_) h1 hd hrun;rcases Ef _ _ ▸ h0 with h0|h0
   .exact di hR h0 hv
   .exact al5 jH.pk hR h0 hv
  .cases h2
 next sz x i t y j ho=>
  simp only[bZ]at bE;obtain⟨⟨h0,h1⟩,h2⟩:=bE;split at h2
  next e hu=>
   exact amo ho hu (eq_of_beq h2) h0 h1 hR hd hrun
  .cases h2
 next off sz x t y fi ho=>
  simp only[bZ]at bE;obtain⟨h0,h1⟩:=bE;split at h1
  next fs hu=>
   split at h1
   next f hf=>
    simp only[bZ,ec]at h1;exact amz ho hu hf h1.1 h1.2 h0 hR hd hrun
   .cases h1
  .cases h1
 next x args ts ho=>
  simp only[bZ]at bE;obtain⟨h0,h1⟩:=bE;split at h0
  next y hy=>
   split at h1
   next t ht=>
    split at h1
    next e hu=>
     have:args = #[y]:=by apply oU;simpa using hy
     subst this;exact amp ho ht hu h0 hR hd hrun
    .cases h1
   .cases h1
  .cases h0
 next cD src oy sh mx x y args ts ho=>
  simp only[bZ]at bE;obtain⟨h0,h1⟩:=bE;split at h0
  next p q xM=>
   split at h1
   next t u S4=>
    simp only[bZ,ec]at h1 h0;obtain⟨⟨rfl,h2⟩,h5⟩:=h1;obtain⟨e,i,z,q1,q2,q3,q4,q5,q6,q7⟩:=Kb h2;have e1:args = #[p,q]:=by apply oU;simpa using xM
    have e2:ts = #[t,t]:=by apply oU;simpa using S4
    subst e1;subst e2;exact amI (ano h5 q1) ho q1 ⟨⟨i,z,q2,q3,q4,q5,q6⟩,q7⟩ h0.1 h0.2 (hn cD (by simp[VO.names])) hR hd hrun
   .cases h1
  .cases h0
 next nw src oy sh x y args ts ho=>
  simp only[bZ]at bE;obtain⟨h0,h1⟩:=bE;split at h0
  next p q xM=>
   split at h1
   next t u S4=>
    simp only[bZ,ec]at h1 h0;obtain⟨rfl,h2⟩:=h1;obtain⟨e,i,z,q1,q2,q3,q4,q5,q6,q7⟩:=Kb h2;have e1:args = #[p,q]:=by apply oU;simpa using xM
    have e2:ts = #[t,t]:=by apply oU;simpa using S4
    subst e1;subst e2;exact anw ho q1 ⟨⟨i,z,q2,q3,q4,q5,q6⟩,q7⟩ h0.1 h0.2 (hn nw (by simp[VO.names])) hR hd hrun
   .cases h1
  .cases h0
 next x i y j ho=>
  simp only[bZ,ec]at bE;obtain⟨h0,rfl⟩:=bE;exact ams ho h0 hR hd hrun
 next alone f args reg gg as ts ho=>
  simp only[bZ]at bE;have xL:∀p f,look p reg=some f->S.fa f:=λp f hp=>hn f (by
   simp only[VO.names,EP];exact nU.2 ⟨(p,f),xK hp,rfl⟩)
  cases alone
  .exact aam ho bE.1.1 (Ka bE.1.2) hC bE.2 xL hR hd hrun
  .exact anl ho bE.1.1 (Ka bE.1.2) hC bE.2 xL hR hd hrun
 next f id x gg as ts ho=>
  simp only[bZ,ec]at bE;obtain⟨⟨⟨h0,sZ⟩,h1⟩,h2⟩:=bE;split at h2
  next p q hq=>
   simp only[bZ]at h2;have e:as = #[p,q]:=by apply oU;simpa using hq
   subst e;refine anx ho ?_ h2.1 h2.2 (jH.sh f 2 h0) (hn id (by simp[VO.names])) hR hd hrun
   have hr:=di (v:=.fn f []) hR h1 rfl;generalize a.eval gg=y at hr;cases hr with
   |plain h _=>cases h
   |fn _ _ xs hl hx =>
    have:xs = #[]:=by
     apply Gi;simpa using hl.symm
    rw[this,sZ]
  .cases h2
 next id src x y args ts ho=>
  simp only[bZ]at bE;obtain⟨h0,h1⟩:=bE;split at h0
  next p q xM=>
   simp only[bZ]at h0;have e:args = #[p,q]:=by apply oU;simpa using xM
   subst e;split at h1
   next t t2 ht=>
    have e2:ts = #[t,t2]:=by apply oU;simpa using ht
    subst e2;split at h1
    next e hu=>exact anz ho hu (eq_of_beq h1) h0.1 h0.2 hR hd hrun
    .cases h1
   .cases h1
  .cases h0
 next x args ts ho=>
  simp only[bZ]at bE;obtain⟨h0,h1⟩:=bE;split at h0
  next p xM=>
   have e:args = #[p]:=by apply oU;simpa using xM
   subst e;split at h1
   next t ht=>
    have e2:ts = #[t]:=by apply oU;simpa using ht
    subst e2;split at h1
    next e hu=>
     split at h1
     next ie EH=>
      split at h1
      next hz=>exact anA ho hu EH hz h0 hR hd hrun
      .cases h1
     .cases h1
    .cases h1
   .cases h1
  .cases h0
 next k f _ x gg as ts ho=>
  simp only[bZ,ec,bne_iff_ne,ne_eq]at bE;obtain⟨⟨⟨⟨h0,ql⟩,sZ⟩,h1⟩,h2⟩:=bE;split at h2
  next q hq=>
   have e:as = #[q]:=by apply oU;simpa using hq
   subst e;have hmk:S5 P k f:=by
    have:=jH.sh f k h0;unfold J9 at this;split at this
    .exact absurd rfl ql
    .exact this
   refine anC ho ?_ h2 hmk hR hd (by simpa only[VO.run] using hrun)
   have hr:=di (v:=.fn f []) hR h1 rfl;generalize a.eval gg=y at hr;cases hr with
   |plain h _=>cases h
   |fn _ _ xs hl hx =>
    have:xs = #[]:=by
     apply Gi;simpa using hl.symm
    rw[this,sZ]
  .cases h2
 next f args ids id pos gg as ts ho=>
  simp only[bZ]at bE;exact S6 ho bE.1 (SW bE.2) hC (hn id (by simp[VO.names])) hR hd hrun
 next f args id gg as ts ho=>
  simp only[bZ]at bE;exact anD ho bE.1.1 (Ka bE.1.2) hC (hn id (by simp[VO.names])) bE.2 hR hd hrun
 next f args gg as ts ho=>
  simp only[bZ]at bE;exact aam (reg:=[]) ho bE.1 (Ka bE.2) hC rfl (by intro p f h;cases h) hR hd (aar hrun)
 next id zero x t y z ho=>
  simp only[bZ]at bE;obtain⟨⟨⟨h0,h1⟩,h2⟩,h3⟩:=bE;obtain⟨e,i,z,q1,q2,q3,q4,q5,q6,q7⟩:=Kb h2;simp only[q1]at h3;obtain⟨i',z',r1,r2,r3⟩:=NO h3;rw[q2]at r1;cases r1;rw[q3]at r2;cases r2;exact amT ho q1 q2 q3 q4 (by omega) q6 r3 h0 h1 (hn id (by simp[VO.names])) hR hd hrun
 next sz x lo hi t y l h ho=>
  simp only[bZ]at bE;obtain⟨⟨⟨h0,h1⟩,h2⟩,h3⟩:=bE;split at h3
  next e hu=>
   refine ane ho hu (eq_of_beq h3) h0 ?_ ?_ hR hd hrun
   .unfold NM at h1;split at h1<;>first|trivial|exact h1|cases h1
   .unfold NM at h2;split at h2<;>first|trivial|exact h2|cases h2
  .cases h3
 next mx x y z b args ts ho=>
  simp only[bZ,jD]at bE;obtain⟨rfl,h1⟩:=bE;split at h1
  next p q r xM=>
   simp only[bZ]at h1;have e1:args = #[p,q,r]:=by apply oU;simpa using xM
   subst e1;exact amu ho h1.1.1 h1.1.2 h1.2 hR hd hrun
  .cases h1
 next mx x y b args ts ho=>
  simp only[bZ,jD]at bE;obtain⟨rfl,h1⟩:=bE;split at h1
  next p q xM=>
   simp only[bZ]at h1;have e1:args = #[p,q]:=by apply oU;simpa using xM
   subst e1;exact amt ho h1.1 h1.2 hR hd hrun
  .cases h1
 next f cap gg first Ba ho=>
  simp only[bZ,ec,Ze]at bE;obtain⟨⟨rfl,rfl⟩,h2⟩:=bE;obtain⟨q1,q2⟩:=aav h2;exact amv ho ⟨by simpa using q1,λi x y hx hy=>q2 i x y hx (by simpa using hy)⟩ hR hd hrun
 next f args ids gg as ts ho=>
  simp only[bZ]at bE;exact anE ho bE.1 (SW bE.2) hC hR hd hrun
 next n t m ps ho=>
  simp only[bZ,ec,Ze]at bE;obtain⟨⟨rfl,rfl⟩,h⟩:=bE;split at h
  next e hu=>
   obtain⟨k,hk⟩:=R8.1 h;exact am1 ho hu hk hR hd hrun
  .cases h
 next neg x op t p q ty ho=>
  simp only[bZ,jD]at bE;obtain⟨⟨⟨h1,h2⟩,h3⟩,h4⟩:=bE;split at h2
  next e hu=>
   exact am2 ho h1 hu h3 h4 hR hd hrun
  .cases h2
 next cD x t y ho=>
  simp only[bZ]at bE;exact am3 ho bE.1 bE.2 (hn cD (by simp[VO.names])) hR hd hrun
 next cD x z t y u ho=>
  simp only[bZ,ec,GD]at bE;exact am9 ho bE.1.1.1 bE.1.1.2 bE.1.2 bE.2 hR (by rw[bE.1.1.1]at hrun;exact bE.1.1.1 ▸ hrun)
 .cases bE
end
