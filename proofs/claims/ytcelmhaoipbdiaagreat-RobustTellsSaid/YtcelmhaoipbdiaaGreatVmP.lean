/- The value machine: equality of structs and arrays, cell by cell. -/
import Derived.ChangeKeysEq
import Derived.Laws.StructEq
import Derived.Test.YtcelmhaoipbdiaaGreatVm5
namespace Go.Vm
set_option linter.all false
def DF(rec:TypeId→Option (List Nat)):Nat→List Field→Option (List Nat)
 |_,[]=>some []
 |off,f::fs=>bif (f.name != "_")&&f.offset==off then match rec f.type with
  |some ks=>match DF rec (off+ks.length) fs with
   |some r=>some (ks++r)
   |none=>none
  |none=>none
  else none
def wa(n:Nat)(ks:List Nat):List Nat :=
 match n with
 |0=>[]
 |n+1=>ks++wa n ks
def qR(P:Program):Nat→TypeId→Option (List Nat)
 |0,_=>none
 |m+1,t=>match P.underlying t with
  |some (.int _)=>bif fw P t==some 1 then some [0] else none
  |some .bool=>bif fw P t==some 1 then some [1] else none
  |some .string=>bif fw P t==some 1 then some [2] else none
  |some (.struct fs)=>bif P.stoodInHeld t then none else match DF (qR P m) 0 fs.toList with
   |some ks=>bif fw P t==some ks.length then some ks else none
   |none=>none
  |some (.array n e)=>match qR P m e with
   |some ks=>bif (fw P e==some ks.length)&&(fw P t==some (n*ks.length)) then some (wa n ks) else none
   |none=>none
  |_=>none
theorem Zj(n:Nat)(ks:List Nat):(wa n ks).length=n*ks.length:=by
 induction n with
 |zero=>simp[wa]
 |succ n ih=>simp[wa,ih,oI];omega
theorem IG:∀{k1 k2:List Nat} {cs ds:List V} {b:Bool},eJ (k1++k2) cs ds=some b →
  ∃b1 b2,eJ k1 cs ds=some b1∧eJ k2 (cs.drop k1.length) (ds.drop k1.length)=some b2∧b=(b1&&b2)
 |[],k2,cs,ds,b,h=>⟨true,b,rfl,h,by simp⟩
 |k::k1,k2,[],ds,b,h=>by simp[eJ]at h
 |k::k1,k2,_::_,[],b,h=>by simp[eJ]at h
 |k::k1,k2,c::cs,d::ds,b,h=>by
  simp only[uu,eJ]at h;split at h
  ·rename_i p q hp hq
   obtain⟨b1,b2,h1,h2,h3⟩:=IG hq;simp only[Option.some.injEq]at h;refine⟨p&&b1,b2,by simp[eJ,hp,h1],by simpa using h2,by rw[←h,h3,Bool.and_assoc]⟩
  ·cases h
theorem IH:∀{ks:List Nat} {cs ds:List V} {n:Nat} {b:Bool},ks.length≤n→eJ ks cs ds=some b→eJ ks (cs.take n) (ds.take n)=some b
 |[],cs,ds,n,b,_,h=>by cases cs<;>cases ds<;>simpa [eJ] using h
 |k::ks,[],ds,n,b,_,h=>by simp[eJ]at h
 |k::ks,_::_,[],n,b,_,h=>by simp[eJ]at h
 |k::ks,c::cs,d::ds,0,b,hn,h=>by simp at hn
 |k::ks,c::cs,d::ds,n+1,b,hn,h=>by
  simp only[eJ]at h;split at h
  ·rename_i p q hp hq
   simp only[Pu,eJ,hp,IH (by simpa using hn) hq]
   exact h
  ·cases h
theorem RF:∀{ks:List Nat} {cs ds:List V} {b:Bool},eJ ks cs ds=some b→ks.length≤cs.length∧ks.length≤ds.length
 |[],cs,ds,b,h=>by simp
 |k::ks,[],ds,b,h=>by simp[eJ]at h
 |k::ks,_::_,[],b,h=>by simp[eJ]at h
 |k::ks,c::cs,d::ds,b,h=>by
  simp only[eJ]at h;split at h
  ·rename_i p q hp hq
   have:=RF hq;simp;omega
  ·cases h
structure pL(X:Cx)(cs:List V)(xs:Array Value):Prop where
 len:cs.length=xs.size
 rel:∀(j:Nat) (v:V) (y:Value),cs[j]?=some v→xs[j]?=some y→bf X v y
theorem pL.sub{X:Cx}{cs:List V}{xs:Array Value}(h:pL X cs xs)(o n:Nat)(hn:o+n≤cs.length):pL X ((cs.drop o).take n) (xs.extract o (o+n)):=by
 refine⟨by simp;have:=h.len;omega,fun j u y hu hy=>?_⟩
 simp only[lN,oF]at hu;split at hu
 ·refine h.rel (o+j) u y hu ?_
  rw[Wv]at hy;split at hy
  ·exact hy
  ·cases hy
 ·cases hu
theorem bf.DG{X:Cx}{k:IntKind}{n:Int}{x:Value}(h:bf X (.int k n) x):x=.int k n:=by
 cases h with|plain h _=>cases h;rfl
theorem bf.DH{X:Cx}{b:Bool}{x:Value}(h:bf X (.bool b) x):x=.bool b:=by
 cases h with|plain h _=>cases h;rfl
theorem bf.B0{X:Cx}{s:List UInt8}{x:Value}(h:bf X (.str s) x):∃z:ByteArray,x=.string z∧z.data.toList=s:=by
 cases h with|plain h _=>cases h;exact⟨_,rfl,rfl⟩
section
variable {P:Program} {w:World}
theorem RG{t:TypeId}(ha:l9 P t=some false){cs:List V}{xs:Array Value}{X:Cx}(h:pL X cs xs){o:Nat}{v:V}(hv:(cs.drop o)[0]?=some v) :
  ∃x,(part t xs o).run P w=.ok x w∧bf X v x:=by
 simp only[oF,xX]at hv;have bI:o<xs.size:=by rw[←h.len];exact fa hv
 exact⟨xs[o],by simp[part,C8 ha,bI],h.rel o v xs[o] hv (by simp[bI])⟩
theorem FK{t:TypeId}(ha:l9 P t=some true){n:Nat}(hs:fw P t=some n){xs:Array Value}{o:Nat}:(part t xs o).run P w=.ok (.agg (xs.extract o (o+n))) w:=by
 simp[part,C8 ha,pC hs]
theorem Zk(a b:ByteArray):(a.toList==b.toList)=(a.data.toList==b.data.toList):=by
 rw[ByteArray.toList_eq,ByteArray.toList_eq]
theorem Zl{k m:Nat}{t:TypeId}(hu:(k=0∧∃q,P.underlying t=some (.int q))∨(k=1∧P.underlying t=some .bool)∨(k=2∧P.underlying t=some .string))
  {X:Cx} {u v:V} {x y:Value} (hx:bf X u x) (hy:bf X v y) {b:Bool} (h:kO k u v=some b):(Op.equalIn (m+1) t x y).run P w=.ok b w:=by
 unfold kO at h;split at h
 ·rename_i q1 a q2 c
  rcases hu with⟨_,q,hu⟩ | ⟨h0,_⟩ | ⟨h0,_⟩<;>first|omega|skip
  cases hk:decide (q1=q2) with
  |false=>simp[hk]at h
  |true =>
   have:=ER hk;subst this;simp only[decide_true,bM,Option.some.injEq]at h;rw[hx.DG,hy.DG,run_equalIn_int w m t q1 q a c hu,h]
 ·rename_i a c
  rcases hu with⟨h0,_⟩ | ⟨_,hu⟩ | ⟨h0,_⟩<;>first|omega|skip
  rw[hx.DH,hy.DH,run_equalIn_bool' w m t a c hu];cases h;rfl
 ·rename_i a c
  rcases hu with⟨h0,_⟩ | ⟨h0,_⟩ | ⟨_,hu⟩<;>first|omega|skip
  obtain⟨a',rfl,rfl⟩:=hx.B0;obtain⟨c',rfl,rfl⟩:=hy.B0;rw[run_equalIn_string w m t a' c' hu,Zk];cases h;rfl
 ·cases h
def EqAt(P:Program)(m:Nat)(t:TypeId)(ks:List Nat):Prop :=
 ∀(w:World) (X:Cx) (d:Nat) (cs ds:List V) (xs ys:Array Value) (o:Nat) (b:Bool),pL X cs xs→pL X ds ys→eJ ks (cs.drop o) (ds.drop o)=some b →
  ∃x y,(part t xs o).run P w=.ok x w∧(part t ys o).run P w=.ok y w∧(Op.equalIn (m+d) t x y).run P w=.ok b w
theorem Zm{rec:TypeId→Option (List Nat)}{m:Nat}(ih:∀t ks,rec t=some ks→EqAt P m t ks)(w:World)(X:Cx)(d:Nat)(cs ds:List V)(xs ys:Array Value)
  (hx:pL X cs xs) (hy:pL X ds ys):∀(fs:List Field) (off:Nat) (ks:List Nat) (b:Bool),DF rec off fs=some ks→eJ ks (cs.drop off) (ds.drop off)=some b →
  (Op.eqFields (m+d) xs ys fs).run P w=.ok b w
 |[],off,ks,b,h,he=>by
  simp only[DF,Option.some.injEq]at h;subst h;simp[eJ]at he;subst he;simp[Op.eqFields]
 |f::fs,off,ks,b,h,he=>by
  simp only[DF]at h;cases hc:((f.name != "_")&&f.offset==off) with
  |false=>simp[hc]at h
  |true =>
   simp only[hc,bM]at h;simp only[b8,bne_iff_ne,ne_eq,eg]at hc;split at h
   ·rename_i k1 h1
    split at h
    ·rename_i r h2
     simp only[Option.some.injEq]at h;subst h;obtain⟨b1,b2,e1,e2,rfl⟩:=IG he;rw[zI,zI]at e2;obtain⟨x,y,p1,p2,p3⟩:=ih f.type k1 h1 w X d cs ds xs ys off b1 hx hy e1;have vV:=Zm ih w X d cs ds xs ys hx hy fs (off+k1.length) r b2 h2 e2;simp only[Op.eqFields,ne_eq,hc.1,not_false_eq_true,if_true,Sem.run_bind,hc.2,p1,p2,p3,Result.andThen_ok];cases b1
     ·simp
     ·simpa using vV
    ·cases h
   ·cases h
theorem Zn{m:Nat}{e:TypeId}{ks:List Nat}(ih:EqAt P m e ks)(w:World)(X:Cx)(d:Nat)(cs ds:List V)(xs ys:Array Value)(hc:P.cellsOf e=ks.length)
  (hx:pL X cs xs) (hy:pL X ds ys):∀(n i:Nat) (b:Bool),eJ (wa n ks) (cs.drop (i*ks.length)) (ds.drop (i*ks.length))=some b →
  (Op.eqItems (m+d) e (P.cellsOf e) xs ys (List.range' i n)).run P w=.ok b w
 |0,i,b,he=>by
  simp[wa,eJ]at he;subst he;simp[Op.eqItems]
 |n+1,i,b,he=>by
  simp only[wa]at he;obtain⟨b1,b2,e1,e2,rfl⟩:=IG he;rw[zI,zI,show i*ks.length+ks.length=(i+1)*ks.length from by rw[oI]]at e2
  obtain⟨x,y,p1,p2,p3⟩:=ih w X d cs ds xs ys _ b1 hx hy e1;have vV:=Zn ih w X d cs ds xs ys hc hx hy n (i+1) b2 e2;rw[Hq];simp only[Op.eqItems,Sem.run_bind,hc,p1,p2,p3,Result.andThen_ok];rw[hc]at vV;cases b1
  ·simp
  ·simpa using vV
theorem RH:∀(m:Nat) (t:TypeId) (ks:List Nat),qR P m t=some ks→EqAt P m t ks
 |0,t,ks,h=>by simp[qR]at h
 |m+1,t,ks,h=>by
  intro w X d cs ds xs ys o b hx hy he;have ih:=RH m;have one:∀k,ks=[k]→l9 P t=some false→((k=0∧∃q,P.underlying t=some (.int q))∨(k=1∧P.underlying t=some .bool)∨(k=2∧P.underlying t=some .string)) →
    ∃x y,(part t xs o).run P w=.ok x w∧(part t ys o).run P w=.ok y w∧(Op.equalIn (m+1+d) t x y).run P w=.ok b w:=by
   intro k hk ha hu;subst hk;cases eX:cs.drop o with
   |nil=>rw[eX]at he;simp[eJ]at he
   |cons u us =>
    cases qn:ds.drop o with
    |nil=>rw[eX,qn]at he;simp[eJ]at he
    |cons v vs =>
     rw[eX,qn]at he;simp only[eJ]at he;split at he
     ·rename_i p q hp hq
      cases hq;simp only[Bool.and_true,Option.some.injEq]at he;subst he;obtain⟨x,h1,h2⟩:=RG (w:=w) ha hx (o:=o) (v:=u) (by rw[eX];rfl)
      obtain⟨y,h3,h4⟩:=RG (w:=w) ha hy (o:=o) (v:=v) (by rw[qn];rfl)
      refine⟨x,y,h1,h3,?_⟩;rw[show m+1+d=(m+d)+1 from by omega]
      exact Zl hu h2 h4 hp
     ·cases he
  have agg:∀n,l9 P t=some true→fw P t=some n→n=ks.length→(∀xs ys,pL X ((cs.drop o).take n) xs→pL X ((ds.drop o).take n) ys →
    eJ ks ((cs.drop o).take n) ((ds.drop o).take n)=some b→(Op.equalIn (m+1+d) t (.agg xs) (.agg ys)).run P w=.ok b w) →
    ∃x y,(part t xs o).run P w=.ok x w∧(part t ys o).run P w=.ok y w∧(Op.equalIn (m+1+d) t x y).run P w=.ok b w:=by
   intro n ha hs hn hk;obtain⟨l1,l2⟩:=RF he;simp only[Ph]at l1 l2;refine⟨_,_,FK ha hs,FK ha hs,?_⟩;rcases nG n with h0|h0
   ·have e1:pL X ((cs.drop o).take n) (xs.extract o (o+n)):=⟨by subst h0;simp;omega,by subst h0;simp⟩
    have e2:pL X ((ds.drop o).take n) (ys.extract o (o+n)):=⟨by subst h0;simp;omega,by subst h0;simp⟩
    exact hk _ _ e1 e2 (IH (by omega) he)
   ·exact hk _ _ (hx.sub o n (by omega)) (hy.sub o n (by omega)) (IH (by omega) he)
  simp only[qR]at h;split at h
  ·rename_i q hu
   cases hc:fw P t==some 1<;>simp[hc]at h;exact one 0 h.symm (by simp[l9,hu]) (.inl ⟨rfl,q,hu⟩)
  ·rename_i hu
   cases hc:fw P t==some 1<;>simp[hc]at h;exact one 1 h.symm (by simp[l9,hu]) (.inr (.inl ⟨rfl,hu⟩))
  ·rename_i hu
   cases hc:fw P t==some 1<;>simp[hc]at h;exact one 2 h.symm (by simp[l9,hu]) (.inr (.inr ⟨rfl,hu⟩))
  ·rename_i fs hu
   cases fm:P.stoodInHeld t with
   |true=>simp[fm]at h
   |false =>
    simp only[fm,fu]at h;split at h
    ·rename_i k1 h1
     cases hc:fw P t==some k1.length with
     |false=>simp[hc]at h
     |true =>
      simp only[hc,bM,Option.some.injEq]at h;subst h;refine agg _ (by simp[l9,hu]) (by simpa using hc) rfl fun xs ys r1 r2 he=>?_
      have hf:P.fieldsOf t=fs:=by simp[Program.fieldsOf,hu]
      rw[show m+1+d=(m+d)+1 from by omega,run_equalIn_struct w (m+d) t xs ys (by rw[hf];exact hu) fm,hf]
      exact Zm ih w X d _ _ xs ys r1 r2 _ 0 k1 b h1 he
    ·cases h
  ·rename_i n e hu
   split at h
   ·rename_i k1 h1
    cases hc:((fw P e==some k1.length)&&(fw P t==some (n*k1.length))) with
    |false=>simp[hc]at h
    |true =>
     simp only[hc,bM,Option.some.injEq]at h;simp only[b8,eg]at hc;subst h;refine agg _ (by simp[l9,hu]) hc.2 (Zj _ _).symm fun xs ys r1 r2 he=>?_
     have eH:=hc.1;simp only[fw,EP]at eH;obtain⟨i,hi,eH⟩:=eH;rw[show m+1+d=(m+d)+1 from by omega,run_equalIn_array w (m+d) xs ys hu hi,Hr]
     exact Zn (ih e k1 h1) w X d _ _ xs ys (by simp[Program.cellsOf,hi,eH]) r1 r2 n 0 b (by simpa using he)
   ·cases h
  ·cases h
theorem ajL{E:Entry}{g:Gh}{S S':St}{a:Act}{o:Oper}{neg:Bool}{t t':TypeId}{ks:List Nat}{p q:Operand}{x y:bA}{C:bD}(ho:o.op=.binOp (if neg then .neq else .eql) t p q t')
  (hk:qR P 100 t=some ks) (ha:l9 P t=some true) (hm:P.eqGuardType P.depth t=false) (eH:fw P t=some ks.length) (hp:bZ p x=true) (hq:bZ q y=true)
  (hR:R E g S a w) (hd:∀d,o.dst=some d→d<E.nt) (ah:VO.run C o.dst S (.gA neg ks x y)=some S'):ct P E o S S' a w:=by
 simp only[VO.run]at ah;split at ah
 ·rename_i u0 v0 h1 h2
  split at ah
  ·rename_i z hz
   cases ah;unfold V.gA at hz;split at hz
   ·rename_i cs ds
    cases hl:(cs.length==ks.length&&ds.length==ks.length) with
    |false=>simp[hl]at hz
    |true =>
     simp only[hl,bM]at hz;simp only[b8,eg]at hl;split at hz
     ·rename_i b hb
      cases hz;obtain⟨xs,e1,l1,r1⟩:=rU (c9 hR hp h1);obtain⟨ys,e2,l2,r2⟩:=rU (c9 hR hq h2);obtain⟨u,v,q1,q2,q3⟩:=RH 100 t ks hk w (S.cx g w) 9900 cs ds xs ys 0 b ⟨l1,r1⟩ ⟨l2,r2⟩ (by simpa using hb)
      rw[FK ha eH]at q1 q2;cases q1;cases q2;have ex:xs.extract 0 (0+ks.length)=xs:=by simp[←hl.1,l1]
      have ey:ys.extract 0 (0+ks.length)=ys:=by simp[←hl.2,l2]
      rw[ex,ey]at q3;refine ct.put hR hd (x:=.bool (bif neg then !b else b)) ?_ (bf.bool _);cases neg
      ·simp only[execOp,ho,e1,e2,Hb,if_false,fu]
       simp[run_eqGuard_agg w .eql t p q xs ys hm,run_eql_struct,q3]
      ·simp only[execOp,ho,e1,e2,if_true,bM]
       simp[run_eqGuard_agg w .neq t p q xs ys hm,run_neq_struct,q3]
     ·cases hz
   ·cases hz
  ·cases ah
 ·cases ah
end
end Go.Vm
