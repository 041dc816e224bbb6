/- The value machine: equality of structs and arrays, cell by cell. -/
import Derived.ChangeKeysEq
import Derived.Laws.StructEq
import Derived.Test.YtcelmhaoipbdiaaGreatDoorVm5
namespace Go.Vm
set_option linter.all false
def BF(rec:TypeId→Option (List Nat)):Nat→List Field→Option (List Nat)
 |_,[]=>some []
 |off,f::fs=>bif (f.name != "_")&&f.offset==off then match rec f.type with
  |some ks=>match BF rec (off+ks.length) fs with
   |some r=>some (ks++r)
   |none=>none
  |none=>none
  else none
def uC(n:Nat)(ks:List Nat):List Nat :=
 match n with
 |0=>[]
 |n+1=>ks++uC n ks
def pL(P:Program):Nat→TypeId→Option (List Nat)
 |0,_=>none
 |m+1,t=>match P.underlying t with
  |some (.int _)=>bif eW P t==some 1 then some [0] else none
  |some .bool=>bif eW P t==some 1 then some [1] else none
  |some .string=>bif eW P t==some 1 then some [2] else none
  |some (.struct fs)=>bif P.stoodInHeld t then none else match BF (pL P m) 0 fs.toList with
   |some ks=>bif eW P t==some ks.length then some ks else none
   |none=>none
  |some (.array n e)=>match pL P m e with
   |some ks=>bif (eW P e==some ks.length)&&(eW P t==some (n*ks.length)) then some (uC n ks) else none
   |none=>none
  |_=>none
theorem VA(n:Nat)(ks:List Nat):(uC n ks).length=n*ks.length:=by
 induction n with
 |zero=>simp[uC]
 |succ n ih=>simp[uC,ih,nU];omega
theorem Gx:∀{k1 k2:List Nat} {cs ds:List V} {b:Bool},eA (k1++k2) cs ds=some b →
  ∃b1 b2,eA k1 cs ds=some b1∧eA k2 (cs.drop k1.length) (ds.drop k1.length)=some b2∧b=(b1&&b2)
 |[],k2,cs,ds,b,h=>⟨true,b,rfl,h,by simp⟩
 |k::k1,k2,[],ds,b,h=>by simp[eA]at h
 |k::k1,k2,_::_,[],b,h=>by simp[eA]at h
 |k::k1,k2,c::cs,d::ds,b,h=>by
  simp only[tL,eA]at h;split at h
  ·rename_i p q hp hq
   obtain⟨b1,b2,h1,h2,h3⟩:=Gx hq;simp only[Option.some.injEq]at h;refine⟨p&&b1,b2,by simp[eA,hp,h1],by simpa using h2,by rw[←h,h3,Bool.and_assoc]⟩
  ·cases h
theorem Gy:∀{ks:List Nat} {cs ds:List V} {n:Nat} {b:Bool},ks.length≤n→eA ks cs ds=some b→eA ks (cs.take n) (ds.take n)=some b
 |[],cs,ds,n,b,_,h=>by cases cs<;>cases ds<;>simpa [eA] using h
 |k::ks,[],ds,n,b,_,h=>by simp[eA]at h
 |k::ks,_::_,[],n,b,_,h=>by simp[eA]at h
 |k::ks,c::cs,d::ds,0,b,hn,h=>by simp at hn
 |k::ks,c::cs,d::ds,n+1,b,hn,h=>by
  simp only[eA]at h;split at h
  ·rename_i p q hp hq
   simp only[Ms,eA,hp,Gy (by simpa using hn) hq]
   exact h
  ·cases h
theorem Oz:∀{ks:List Nat} {cs ds:List V} {b:Bool},eA ks cs ds=some b→ks.length≤cs.length∧ks.length≤ds.length
 |[],cs,ds,b,h=>by simp
 |k::ks,[],ds,b,h=>by simp[eA]at h
 |k::ks,_::_,[],b,h=>by simp[eA]at h
 |k::ks,c::cs,d::ds,b,h=>by
  simp only[eA]at h;split at h
  ·rename_i p q hp hq
   have:=Oz hq;simp;omega
  ·cases h
structure ou(X:Cx)(cs:List V)(xs:Array Value):Prop where
 len:cs.length=xs.size
 rel:∀(j:Nat) (v:V) (y:Value),cs[j]?=some v→xs[j]?=some y→aZ X v y
theorem ou.sub{X:Cx}{cs:List V}{xs:Array Value}(h:ou X cs xs)(o n:Nat)(hn:o+n≤cs.length):ou X ((cs.drop o).take n) (xs.extract o (o+n)):=by
 refine⟨by simp;have:=h.len;omega,fun j u y hu hy=>?_⟩
 simp only[kn,nT]at hu;split at hu
 ·refine h.rel (o+j) u y hu ?_
  rw[Sq]at hy;split at hy
  ·exact hy
  ·cases hy
 ·cases hu
theorem aZ.BG{X:Cx}{k:IntKind}{n:Int}{x:Value}(h:aZ X (.int k n) x):x=.int k n:=by
 cases h with|plain h _=>cases h;rfl
theorem aZ.BH{X:Cx}{b:Bool}{x:Value}(h:aZ X (.bool b) x):x=.bool b:=by
 cases h with|plain h _=>cases h;rfl
theorem aZ.Al{X:Cx}{s:List UInt8}{x:Value}(h:aZ X (.str s) x):∃z:ByteArray,x=.string z∧z.data.toList=s:=by
 cases h with|plain h _=>cases h;exact⟨_,rfl,rfl⟩
section
variable {P:Program} {w:World}
theorem OA{t:TypeId}(ha:kJ P t=some false){cs:List V}{xs:Array Value}{X:Cx}(h:ou X cs xs){o:Nat}{v:V}(hv:(cs.drop o)[0]?=some v) :
  ∃x,(part t xs o).run P w=.ok x w∧aZ X v x:=by
 simp only[nT,wE]at hv;have bB:o<xs.size:=by rw[←h.len];exact eJ hv
 exact⟨xs[o],by simp[part,Be ha,bB],h.rel o v xs[o] hv (by simp[bB])⟩
theorem DF{t:TypeId}(ha:kJ P t=some true){n:Nat}(hs:eW P t=some n){xs:Array Value}{o:Nat}:(part t xs o).run P w=.ok (.agg (xs.extract o (o+n))) w:=by
 simp[part,Be ha,nZ hs]
theorem VB(a b:ByteArray):(a.toList==b.toList)=(a.data.toList==b.data.toList):=by
 rw[ByteArray.toList_eq,ByteArray.toList_eq]
theorem VD{k m:Nat}{t:TypeId}(hu:(k=0∧∃q,P.underlying t=some (.int q))∨(k=1∧P.underlying t=some .bool)∨(k=2∧P.underlying t=some .string))
  {X:Cx} {u v:V} {x y:Value} (hx:aZ X u x) (hy:aZ X v y) {b:Bool} (h:jU k u v=some b):(Op.equalIn (m+1) t x y).run P w=.ok b w:=by
 unfold jU at h;split at h
 ·rename_i q1 a q2 c
  rcases hu with⟨_,q,hu⟩ | ⟨h0,_⟩ | ⟨h0,_⟩<;>first|omega|skip
  cases hk:decide (q1=q2) with
  |false=>simp[hk]at h
  |true =>
   have:=E7 hk;subst this;simp only[decide_true,bC,Option.some.injEq]at h;rw[hx.BG,hy.BG,run_equalIn_int w m t q1 q a c hu,h]
 ·rename_i a c
  rcases hu with⟨h0,_⟩ | ⟨_,hu⟩ | ⟨h0,_⟩<;>first|omega|skip
  rw[hx.BH,hy.BH,run_equalIn_bool' w m t a c hu];cases h;rfl
 ·rename_i a c
  rcases hu with⟨h0,_⟩ | ⟨h0,_⟩ | ⟨_,hu⟩<;>first|omega|skip
  obtain⟨a',rfl,rfl⟩:=hx.Al;obtain⟨c',rfl,rfl⟩:=hy.Al;rw[run_equalIn_string w m t a' c' hu,VB];cases h;rfl
 ·cases h
def EqAt(P:Program)(m:Nat)(t:TypeId)(ks:List Nat):Prop :=
 ∀(w:World) (X:Cx) (d:Nat) (cs ds:List V) (xs ys:Array Value) (o:Nat) (b:Bool),ou X cs xs→ou X ds ys→eA ks (cs.drop o) (ds.drop o)=some b →
  ∃x y,(part t xs o).run P w=.ok x w∧(part t ys o).run P w=.ok y w∧(Op.equalIn (m+d) t x y).run P w=.ok b w
theorem VE{rec:TypeId→Option (List Nat)}{m:Nat}(ih:∀t ks,rec t=some ks→EqAt P m t ks)(w:World)(X:Cx)(d:Nat)(cs ds:List V)(xs ys:Array Value)
  (hx:ou X cs xs) (hy:ou X ds ys):∀(fs:List Field) (off:Nat) (ks:List Nat) (b:Bool),BF rec off fs=some ks→eA ks (cs.drop off) (ds.drop off)=some b →
  (Op.eqFields (m+d) xs ys fs).run P w=.ok b w
 |[],off,ks,b,h,he=>by
  simp only[BF,Option.some.injEq]at h;subst h;simp[eA]at he;subst he;simp[Op.eqFields]
 |f::fs,off,ks,b,h,he=>by
  simp only[BF]at h;cases hc:((f.name != "_")&&f.offset==off) with
  |false=>simp[hc]at h
  |true =>
   simp only[hc,bC]at h;simp only[bQ,bne_iff_ne,ne_eq,dO]at hc;split at h
   ·rename_i k1 h1
    split at h
    ·rename_i r h2
     simp only[Option.some.injEq]at h;subst h;obtain⟨b1,b2,e1,e2,rfl⟩:=Gx he;rw[xp,xp]at e2;obtain⟨x,y,p1,p2,p3⟩:=ih f.type k1 h1 w X d cs ds xs ys off b1 hx hy e1;have uo:=VE ih w X d cs ds xs ys hx hy fs (off+k1.length) r b2 h2 e2;simp only[Op.eqFields,ne_eq,hc.1,not_false_eq_true,if_true,Sem.run_bind,hc.2,p1,p2,p3,Result.andThen_ok];cases b1
     ·simp
     ·simpa using uo
    ·cases h
   ·cases h
theorem VF{m:Nat}{e:TypeId}{ks:List Nat}(ih:EqAt P m e ks)(w:World)(X:Cx)(d:Nat)(cs ds:List V)(xs ys:Array Value)(hc:P.cellsOf e=ks.length)
  (hx:ou X cs xs) (hy:ou X ds ys):∀(n i:Nat) (b:Bool),eA (uC n ks) (cs.drop (i*ks.length)) (ds.drop (i*ks.length))=some b →
  (Op.eqItems (m+d) e (P.cellsOf e) xs ys (List.range' i n)).run P w=.ok b w
 |0,i,b,he=>by
  simp[uC,eA]at he;subst he;simp[Op.eqItems]
 |n+1,i,b,he=>by
  simp only[uC]at he;obtain⟨b1,b2,e1,e2,rfl⟩:=Gx he;rw[xp,xp,show i*ks.length+ks.length=(i+1)*ks.length from by rw[nU]]at e2
  obtain⟨x,y,p1,p2,p3⟩:=ih w X d cs ds xs ys _ b1 hx hy e1;have uo:=VF ih w X d cs ds xs ys hc hx hy n (i+1) b2 e2;rw[EY];simp only[Op.eqItems,Sem.run_bind,hc,p1,p2,p3,Result.andThen_ok];rw[hc]at uo;cases b1
  ·simp
  ·simpa using uo
theorem OB:∀(m:Nat) (t:TypeId) (ks:List Nat),pL P m t=some ks→EqAt P m t ks
 |0,t,ks,h=>by simp[pL]at h
 |m+1,t,ks,h=>by
  intro w X d cs ds xs ys o b hx hy he;have ih:=OB m;have one:∀k,ks=[k]→kJ P t=some false→((k=0∧∃q,P.underlying t=some (.int q))∨(k=1∧P.underlying t=some .bool)∨(k=2∧P.underlying t=some .string)) →
    ∃x y,(part t xs o).run P w=.ok x w∧(part t ys o).run P w=.ok y w∧(Op.equalIn (m+1+d) t x y).run P w=.ok b w:=by
   intro k hk ha hu;subst hk;cases eB:cs.drop o with
   |nil=>rw[eB]at he;simp[eA]at he
   |cons u us =>
    cases oU:ds.drop o with
    |nil=>rw[eB,oU]at he;simp[eA]at he
    |cons v vs =>
     rw[eB,oU]at he;simp only[eA]at he;split at he
     ·rename_i p q hp hq
      cases hq;simp only[Bool.and_true,Option.some.injEq]at he;subst he;obtain⟨x,h1,h2⟩:=OA (w:=w) ha hx (o:=o) (v:=u) (by rw[eB];rfl)
      obtain⟨y,h3,h4⟩:=OA (w:=w) ha hy (o:=o) (v:=v) (by rw[oU];rfl)
      refine⟨x,y,h1,h3,?_⟩;rw[show m+1+d=(m+d)+1 from by omega]
      exact VD hu h2 h4 hp
     ·cases he
  have agg:∀n,kJ P t=some true→eW P t=some n→n=ks.length→(∀xs ys,ou X ((cs.drop o).take n) xs→ou X ((ds.drop o).take n) ys →
    eA ks ((cs.drop o).take n) ((ds.drop o).take n)=some b→(Op.equalIn (m+1+d) t (.agg xs) (.agg ys)).run P w=.ok b w) →
    ∃x y,(part t xs o).run P w=.ok x w∧(part t ys o).run P w=.ok y w∧(Op.equalIn (m+1+d) t x y).run P w=.ok b w:=by
   intro n ha hs hn hk;obtain⟨l1,l2⟩:=Oz he;simp only[ES]at l1 l2;refine⟨_,_,DF ha hs,DF ha hs,?_⟩;rcases mw n with h0|h0
   ·have e1:ou X ((cs.drop o).take n) (xs.extract o (o+n)):=⟨by subst h0;simp;omega,by subst h0;simp⟩
    have e2:ou X ((ds.drop o).take n) (ys.extract o (o+n)):=⟨by subst h0;simp;omega,by subst h0;simp⟩
    exact hk _ _ e1 e2 (Gy (by omega) he)
   ·exact hk _ _ (hx.sub o n (by omega)) (hy.sub o n (by omega)) (Gy (by omega) he)
  simp only[pL]at h;split at h
  ·rename_i q hu
   cases hc:eW P t==some 1<;>simp[hc]at h;exact one 0 h.symm (by simp[kJ,hu]) (.inl ⟨rfl,q,hu⟩)
  ·rename_i hu
   cases hc:eW P t==some 1<;>simp[hc]at h;exact one 1 h.symm (by simp[kJ,hu]) (.inr (.inl ⟨rfl,hu⟩))
  ·rename_i hu
   cases hc:eW P t==some 1<;>simp[hc]at h;exact one 2 h.symm (by simp[kJ,hu]) (.inr (.inr ⟨rfl,hu⟩))
  ·rename_i fs hu
   cases hZ:P.stoodInHeld t with
   |true=>simp[hZ]at h
   |false =>
    simp only[hZ,eV]at h;split at h
    ·rename_i k1 h1
     cases hc:eW P t==some k1.length with
     |false=>simp[hc]at h
     |true =>
      simp only[hc,bC,Option.some.injEq]at h;subst h;refine agg _ (by simp[kJ,hu]) (by simpa using hc) rfl fun xs ys r1 r2 he=>?_
      have hf:P.fieldsOf t=fs:=by simp[Program.fieldsOf,hu]
      rw[show m+1+d=(m+d)+1 from by omega,run_equalIn_struct w (m+d) t xs ys (by rw[hf];exact hu) hZ,hf]
      exact VE ih w X d _ _ xs ys r1 r2 _ 0 k1 b h1 he
    ·cases h
  ·rename_i n e hu
   split at h
   ·rename_i k1 h1
    cases hc:((eW P e==some k1.length)&&(eW P t==some (n*k1.length))) with
    |false=>simp[hc]at h
    |true =>
     simp only[hc,bC,Option.some.injEq]at h;simp only[bQ,dO]at hc;subst h;refine agg _ (by simp[kJ,hu]) hc.2 (VA _ _).symm fun xs ys r1 r2 he=>?_
     have ec:=hc.1;simp only[eW,CL]at ec;obtain⟨i,hi,ec⟩:=ec;rw[show m+1+d=(m+d)+1 from by omega,run_equalIn_array w (m+d) xs ys hu hi,EZ]
     exact VF (ih e k1 h1) w X d _ _ xs ys (by simp[Program.cellsOf,hi,ec]) r1 r2 n 0 b (by simpa using he)
   ·cases h
  ·cases h
theorem aeD{E:Entry}{g:Gh}{S S':St}{a:Act}{o:Oper}{neg:Bool}{t t':TypeId}{ks:List Nat}{p q:Operand}{x y:bp}{C:br}(ho:o.op=.binOp (if neg then .neq else .eql) t p q t')
  (hk:pL P 100 t=some ks) (ha:kJ P t=some true) (hm:P.eqGuardType P.depth t=false) (ec:eW P t=some ks.length) (hp:bO p x=true) (hq:bO q y=true)
  (hR:R E g S a w) (hd:∀d,o.dst=some d→d<E.nt) (ah:VO.run C o.dst S (.iu neg ks x y)=some S'):cd P E o S S' a w:=by
 simp only[VO.run]at ah;split at ah
 ·rename_i u0 v0 h1 h2
  split at ah
  ·rename_i z hz
   cases ah;unfold V.iu at hz;split at hz
   ·rename_i cs ds
    cases hl:(cs.length==ks.length&&ds.length==ks.length) with
    |false=>simp[hl]at hz
    |true =>
     simp only[hl,bC]at hz;simp only[bQ,dO]at hl;split at hz
     ·rename_i b hb
      cases hz;obtain⟨xs,e1,l1,r1⟩:=qb (cS hR hp h1);obtain⟨ys,e2,l2,r2⟩:=qb (cS hR hq h2);obtain⟨u,v,q1,q2,q3⟩:=OB 100 t ks hk w (S.cx g w) 9900 cs ds xs ys 0 b ⟨l1,r1⟩ ⟨l2,r2⟩ (by simpa using hb)
      rw[DF ha ec]at q1 q2;cases q1;cases q2;have ex:xs.extract 0 (0+ks.length)=xs:=by simp[←hl.1,l1]
      have ey:ys.extract 0 (0+ks.length)=ys:=by simp[←hl.2,l2]
      rw[ex,ey]at q3;refine cd.put hR hd (x:=.bool (bif neg then !b else b)) ?_ (aZ.bool _);cases neg
      ·simp only[execOp,ho,e1,e2,EE,if_false,eV]
       simp[run_eqGuard_agg w .eql t p q xs ys hm,run_eql_struct,q3]
      ·simp only[execOp,ho,e1,e2,if_true,bC]
       simp[run_eqGuard_agg w .neq t p q xs ys hm,run_neq_struct,q3]
     ·cases hz
   ·cases hz
  ·cases ah
 ·cases ah
end
end Go.Vm
