/- - -/
import Derived.ChangeKeysEq
import Derived.Laws.StructEq
import Derived.Test.YtabckmbjnjnegaaGreatDoorVm5
namespace Go.Vm
set_option linter.all false
def E3(rec:TypeId->Option (List Nat)):Nat->List Field->Option (List Nat)
 |_,[]=>some []
 |off,f::fs=>bif (f.name != "_")&&f.offset==off then match rec f.type with
  |some ks=>match E3 rec (off+ks.length) fs with
   |some r=>some (ks++r)
   |none=>none
  |none=>none
  else none
def xY(n:Nat)(ks:List Nat):List Nat :=
 match n with
 |0=>[]
 |n+1=>ks++xY n ks
def s9(P:Program):Nat->TypeId->Option (List Nat)
 |0,_=>none
 |m+1,t=>match P.underlying t with
  |some (.int _)=>bif fD P t==some 1 then some [0] else none
  |some .bool=>bif fD P t==some 1 then some [1] else none
  |some .string=>bif fD P t==some 1 then some [2] else none
  |some (.struct fs)=>bif P.stoodInHeld t then none else match E3 (s9 P m) 0 fs.toList with
   |some ks=>bif fD P t==some ks.length then some ks else none
   |none=>none
  |some (.array n e)=>match s9 P m e with
   |some ks=>bif (fD P e==some ks.length)&&(fD P t==some (n*ks.length)) then some (xY n ks) else none
   |none=>none
  |_=>none
def abY(n:Nat)(ks:List Nat):(xY n ks).length=n*ks.length:=by
 induction n with
 |zero=>simp[xY]
 |succ n ih=>simp[xY,ih,rY];omega
def KF:∀{k1 k2:List Nat} {cs ds:List V} {b:Bool},eD (k1++k2) cs ds=some b ->
  ∃b1 b2,eD k1 cs ds=some b1/\eD k2 (cs.drop k1.length) (ds.drop k1.length)=some b2/\b=(b1&&b2)
 |[],k2,cs,ds,b,h=>⟨true,b,rfl,h,by simp⟩
 |k::k1,k2,[],ds,b,h=>by simp[eD]at h
 |k::k1,k2,_::_,[],b,h=>by simp[eD]at h
 |k::k1,k2,c::cs,d::ds,b,h=>by
  simp only[vm,eD]at h;split at h
  next p q hp hq=>
   obtain⟨b1,b2,h1,h2,h3⟩:=KF hq;simp only[Option.some.injEq]at h;refine⟨p&&b1,b2,by simp[eD,hp,h1],by simpa using h2,by rw[<-h,h3,Bool.and_assoc]⟩
  .cases h
def KG:∀{ks:List Nat} {cs ds:List V} {n:Nat} {b:Bool},ks.length<=n->eD ks cs ds=some b->eD ks (cs.take n) (ds.take n)=some b
 |[],cs,ds,n,b,_,h=>by cases cs<;>cases ds<;>simpa [eD] using h
 |k::ks,[],ds,n,b,_,h=>by simp[eD]at h
 |k::ks,_::_,[],n,b,_,h=>by simp[eD]at h
 |k::ks,c::cs,d::ds,0,b,hn,h=>by simp at hn
 |k::ks,c::cs,d::ds,n+1,b,hn,h=>by
  simp only[eD]at h;split at h
  next p q hp hq=>
   simp only[R4,eD,hp,KG (by simpa using hn) hq]
   exact h
  .cases h
def Uf:∀{ks:List Nat} {cs ds:List V} {b:Bool},eD ks cs ds=some b->ks.length<=cs.length/\ks.length<=ds.length
 |[],cs,ds,b,h=>by simp
 |k::ks,[],ds,b,h=>by simp[eD]at h
 |k::ks,_::_,[],b,h=>by simp[eD]at h
 |k::ks,c::cs,d::ds,b,h=>by
  simp only[eD]at h;split at h
  next p q hp hq=>
   have:=Uf hq;simp;omega
  .cases h
structure qV(X:Cx)(cs:List V)(xs:Array Value):Prop where
 len:cs.length=xs.size
 rel:∀(j:Nat) (v:V) (y:Value),cs[j]?=some v->xs[j]?=some y->bh X v y
variable{X:Cx}
def qV.sub{cs:List V}{xs:Array Value}(h:qV X cs xs)(o n:Nat)(hn:o+n<=cs.length):qV X ((cs.drop o).take n) (xs.extract o (o+n)):=by
 refine⟨by simp;have:=h.len;omega,λj u y hu hy=>?_⟩
 simp only[jP,mJ]at hu;split at hu
 .refine h.rel (o+j) u y hu ?_
  rw[Zb]at hy;split at hy
  .exact hy
  .cases hy
 .cases hu
variable{x:Value}
def bh.E4{k:IntKind}{n:Int}(h:bh X (.int k n) x):x=.int k n:=by
 cases h with|plain h _=>cases h;rfl
def bh.E5{b:Bool}(h:bh X (.bool b) x):x=.bool b:=by
 cases h with|plain h _=>cases h;rfl
def bh.DC{s:List UInt8}(h:bh X (.str s) x):∃z:ByteArray,x=.string z/\z.data.toList=s:=by
 cases h with|plain h _=>cases h;exact⟨_,rfl,rfl⟩
section
variable {P:Program} {w:World}
variable{t:TypeId}{xs:Array Value}{o:Nat}
def Ug(ha:mO P t=some false){cs:List V}{X:Cx}(h:qV X cs xs){v:V}(hv:(cs.drop o)[0]?=some v) :
  ∃x,(part t xs o).run P w=.ok x w/\bh X v x:=by
 simp only[mJ,yA]at hv;have bJ:o<xs.size:=by rw[<-h.len];exact fg hv
 exact⟨xs[o],by simp[part,ED ha,bJ],h.rel o v xs[o] hv (by simp[bJ])⟩
def HD(ha:mO P t=some true){n:Nat}(hs:fD P t=some n):(part t xs o).run P w=.ok (.agg (xs.extract o (o+n))) w:=by
 simp[part,ED ha,qL hs]
def abZ(a b:ByteArray):(a.toList==b.toList)=(a.data.toList==b.data.toList):=by
 rw[ByteArray.toList_eq,ByteArray.toList_eq]
def ab0{k m:Nat}(hu:(k=0/\∃q,P.underlying t=some (.int q))\/(k=1/\P.underlying t=some .bool)\/(k=2/\P.underlying t=some .string))
  {X:Cx} {u v:V} {x y:Value} (hx:bh X u x) (hy:bh X v y) {b:Bool} (h:kc k u v=some b):(Op.equalIn (m+1) t x y).run P w=.ok b w:=by
 unfold kc at h;split at h
 next q1 a q2 c=>
  rcases hu with⟨_,q,hu⟩ | ⟨h0,_⟩ | ⟨h0,_⟩<;>first|omega|skip
  cases hk:decide (q1=q2) with
  |false=>simp[hk]at h
  |true =>
   have:=Jv hk;subst this;simp only[decide_true,bW,Option.some.injEq]at h;rw[hx.E4,hy.E4,run_equalIn_int w m t q1 q a c hu,h]
 next a c=>
  rcases hu with⟨h0,_⟩ | ⟨_,hu⟩ | ⟨h0,_⟩<;>first|omega|skip
  rw[hx.E5,hy.E5,run_equalIn_bool' w m t a c hu];cases h;rfl
 next a c=>
  rcases hu with⟨h0,_⟩ | ⟨h0,_⟩ | ⟨_,hu⟩<;>first|omega|skip
  obtain⟨a',rfl,rfl⟩:=hx.DC;obtain⟨c',rfl,rfl⟩:=hy.DC;rw[run_equalIn_string w m t a' c' hu,abZ];cases h;rfl
 .cases h
def EqAt(P:Program)(m:Nat)(t:TypeId)(ks:List Nat):Prop :=
 ∀(w:World) (X:Cx) (d:Nat) (cs ds:List V) (xs ys:Array Value) (o:Nat) (b:Bool),qV X cs xs->qV X ds ys->eD ks (cs.drop o) (ds.drop o)=some b ->
  ∃x y,(part t xs o).run P w=.ok x w/\(part t ys o).run P w=.ok y w/\(Op.equalIn (m+d) t x y).run P w=.ok b w
def ab1{rec:TypeId->Option (List Nat)}{m:Nat}(ih:∀t ks,rec t=some ks->EqAt P m t ks)(w:World)(X:Cx)(d:Nat)(cs ds:List V)(xs ys:Array Value)
  (hx:qV X cs xs) (hy:qV X ds ys):∀(fs:List Field) (off:Nat) (ks:List Nat) (b:Bool),E3 rec off fs=some ks->eD ks (cs.drop off) (ds.drop off)=some b ->
  (Op.eqFields (m+d) xs ys fs).run P w=.ok b w
 |[],off,ks,b,h,he=>by
  simp only[E3,Option.some.injEq]at h;subst h;simp[eD]at he;subst he;simp[Op.eqFields]
 |f::fs,off,ks,b,h,he=>by
  simp only[E3]at h;cases hc:((f.name != "_")&&f.offset==off) with
  |false=>simp[hc]at h
  |true =>
   simp only[hc,bW]at h;simp only[bZ,bne_iff_ne,ne_eq,ec]at hc;split at h
   next k1 h1=>
    split at h
    next r h2=>
     simp only[Option.some.injEq]at h;subst h;obtain⟨b1,b2,e1,e2,rfl⟩:=KF he;rw[CF,CF]at e2;obtain⟨x,y,p1,p2,p3⟩:=ih f.type k1 h1 w X d cs ds xs ys off b1 hx hy e1;have xQ:=ab1 ih w X d cs ds xs ys hx hy fs (off+k1.length) r b2 h2 e2;simp only[Op.eqFields,ne_eq,hc.1,not_false_eq_true,if_true,Sem.run_bind,hc.2,p1,p2,p3,Result.andThen_ok];cases b1
     .simp
     .simpa using xQ
    .cases h
   .cases h
def ab2{m:Nat}{e:TypeId}{ks:List Nat}(ih:EqAt P m e ks)(w:World)(X:Cx)(d:Nat)(cs ds:List V)(xs ys:Array Value)(hc:P.cellsOf e=ks.length)
  (hx:qV X cs xs) (hy:qV X ds ys):∀(n i:Nat) (b:Bool),eD (xY n ks) (cs.drop (i*ks.length)) (ds.drop (i*ks.length))=some b ->
  (Op.eqItems (m+d) e (P.cellsOf e) xs ys (List.range' i n)).run P w=.ok b w
 |0,i,b,he=>by
  simp[xY,eD]at he;subst he;simp[Op.eqItems]
 |n+1,i,b,he=>by
  simp only[xY]at he;obtain⟨b1,b2,e1,e2,rfl⟩:=KF he;rw[CF,CF,show i*ks.length+ks.length=(i+1)*ks.length from by rw[rY]]at e2
  obtain⟨x,y,p1,p2,p3⟩:=ih w X d cs ds xs ys _ b1 hx hy e1;have xQ:=ab2 ih w X d cs ds xs ys hc hx hy n (i+1) b2 e2;rw[El];simp only[Op.eqItems,Sem.run_bind,hc,p1,p2,p3,Result.andThen_ok];rw[hc]at xQ;cases b1
  .simp
  .simpa using xQ
def Uh:∀(m:Nat) (t:TypeId) (ks:List Nat),s9 P m t=some ks->EqAt P m t ks
 |0,t,ks,h=>by simp[s9]at h
 |m+1,t,ks,h=>by
  intro w X d cs ds xs ys o b hx hy he;have ih:=Uh m;have one:∀k,ks=[k]->mO P t=some false->((k=0/\∃q,P.underlying t=some (.int q))\/(k=1/\P.underlying t=some .bool)\/(k=2/\P.underlying t=some .string)) ->
    ∃x y,(part t xs o).run P w=.ok x w/\(part t ys o).run P w=.ok y w/\(Op.equalIn (m+1+d) t x y).run P w=.ok b w:=by
   intro k hk ha hu;subst hk;cases eR:cs.drop o with
   |nil=>rw[eR]at he;simp[eD]at he
   |cons u us =>
    cases so:ds.drop o with
    |nil=>rw[eR,so]at he;simp[eD]at he
    |cons v vs =>
     rw[eR,so]at he;simp only[eD]at he;split at he
     next p q hp hq=>
      cases hq;simp only[Bool.and_true,Option.some.injEq]at he;subst he;obtain⟨x,h1,h2⟩:=Ug (w:=w) ha hx (o:=o) (v:=u) (by rw[eR];rfl)
      obtain⟨y,h3,h4⟩:=Ug (w:=w) ha hy (o:=o) (v:=v) (by rw[so];rfl)
      refine⟨x,y,h1,h3,?_⟩;rw[show m+1+d=(m+d)+1 from by omega]
      exact ab0 hu h2 h4 hp
     .cases he
  have agg:∀n,mO P t=some true->fD P t=some n->n=ks.length->(∀xs ys,qV X ((cs.drop o).take n) xs->qV X ((ds.drop o).take n) ys ->
    eD ks ((cs.drop o).take n) ((ds.drop o).take n)=some b->(Op.equalIn (m+1+d) t (.agg xs) (.agg ys)).run P w=.ok b w) ->
    ∃x y,(part t xs o).run P w=.ok x w/\(part t ys o).run P w=.ok y w/\(Op.equalIn (m+1+d) t x y).run P w=.ok b w:=by
   intro n ha hs hn hk;obtain⟨l1,l2⟩:=Uf he;simp only[RV]at l1 l2;refine⟨_,_,HD ha hs,HD ha hs,?_⟩;rcases nV n with h0|h0
   .have e1:qV X ((cs.drop o).take n) (xs.extract o (o+n)):=⟨by subst h0;simp;omega,by subst h0;simp⟩
    have e2:qV X ((ds.drop o).take n) (ys.extract o (o+n)):=⟨by subst h0;simp;omega,by subst h0;simp⟩
    exact hk _ _ e1 e2 (KG (by omega) he)
   .exact hk _ _ (hx.sub o n (by omega)) (hy.sub o n (by omega)) (KG (by omega) he)
  simp only[s9]at h;split at h
  next q hu=>
   cases hc:fD P t==some 1<;>simp[hc]at h;exact one 0 h.symm (by simp[mO,hu]) (.inl ⟨rfl,q,hu⟩)
  next hu=>
   cases hc:fD P t==some 1<;>simp[hc]at h;exact one 1 h.symm (by simp[mO,hu]) (.inr (.inl ⟨rfl,hu⟩))
  next hu=>
   cases hc:fD P t==some 1<;>simp[hc]at h;exact one 2 h.symm (by simp[mO,hu]) (.inr (.inr ⟨rfl,hu⟩))
  next fs hu=>
   cases eI:P.stoodInHeld t with
   |true=>simp[eI]at h
   |false =>
    simp only[eI,gL]at h;split at h
    next k1 h1=>
     cases hc:fD P t==some k1.length with
     |false=>simp[hc]at h
     |true =>
      simp only[hc,bW,Option.some.injEq]at h;subst h;refine agg _ (by simp[mO,hu]) (by simpa using hc) rfl λxs ys r1 r2 he=>?_
      have hf:P.fieldsOf t=fs:=by simp[Program.fieldsOf,hu]
      rw[show m+1+d=(m+d)+1 from by omega,run_equalIn_struct w (m+d) t xs ys (by rw[hf];exact hu) eI,hf]
      exact ab1 ih w X d _ _ xs ys r1 r2 _ 0 k1 b h1 he
    .cases h
  next n e hu=>
   split at h
   next k1 h1=>
    cases hc:((fD P e==some k1.length)&&(fD P t==some (n*k1.length))) with
    |false=>simp[hc]at h
    |true =>
     simp only[hc,bW,Option.some.injEq]at h;simp only[bZ,ec]at hc;subst h;refine agg _ (by simp[mO,hu]) hc.2 (abY _ _).symm λxs ys r1 r2 he=>?_
     have eF:=hc.1;simp only[fD,GG]at eF;obtain⟨i,hi,eF⟩:=eF;rw[show m+1+d=(m+d)+1 from by omega,run_equalIn_array w (m+d) xs ys hu hi,Em]
     exact ab2 (ih e k1 h1) w X d _ _ xs ys (by simp[Program.cellsOf,hi,eF]) r1 r2 n 0 b (by simpa using he)
   .cases h
  .cases h
def anv{E:Entry}{g:Gh}{S S':St}{a:Act}{o:Oper}{neg:Bool}{t':TypeId}{ks:List Nat}{p q:Operand}{x y:bG}{C:bI}(ho:o.op=.binOp (if neg then .neq else .eql) t p q t')
  (hk:s9 P 100 t=some ks) (ha:mO P t=some true) (hm:P.eqGuardType P.depth t=false) (eF:fD P t=some ks.length) (hp:cc p x=true) (hq:cc q y=true)
  (hR:R E g S a w) (hd:∀d,o.dst=some d->d<E.nt) (hrun:VO.run C o.dst S (.iI neg ks x y)=some S'):cC P E o S S' a w:=by
 simp only[VO.run]at hrun;split at hrun
 next u0 v0 h1 h2=>
  split at hrun
  next z hz=>
   cases hrun;unfold V.iI at hz;split at hz
   next cs ds=>
    cases hl:(cs.length==ks.length&&ds.length==ks.length) with
    |false=>simp[hl]at hz
    |true =>
     simp only[hl,bW]at hz;simp only[bZ,ec]at hl;split at hz
     next b hb=>
      cases hz;obtain⟨xs,e1,l1,r1⟩:=tI (di hR hp h1);obtain⟨ys,e2,l2,r2⟩:=tI (di hR hq h2);obtain⟨u,v,q1,q2,q3⟩:=Uh 100 t ks hk w (S.cx g w) 9900 cs ds xs ys 0 b ⟨l1,r1⟩ ⟨l2,r2⟩ (by simpa using hb)
      rw[HD ha eF]at q1 q2;cases q1;cases q2;have ex:xs.extract 0 (0+ks.length)=xs:=by simp[<-hl.1,l1]
      have ey:ys.extract 0 (0+ks.length)=ys:=by simp[<-hl.2,l2]
      rw[ex,ey]at q3;refine cC.put hR hd (x:=.bool (bif neg then !b else b)) ?_ (bh.bool _);cases neg
      .simp only[execOp,ho,e1,e2,Gk,if_false,gL]
       simp[run_eqGuard_agg w .eql t p q xs ys hm,run_eql_struct,q3]
      .simp only[execOp,ho,e1,e2,if_true,bW]
       simp[run_eqGuard_agg w .neq t p q xs ys hm,run_neq_struct,q3]
     .cases hz
   .cases hz
  .cases hrun
 .cases hrun
end
