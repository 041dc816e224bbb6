/- The value machine: equality of structs and arrays, cell by cell. -/
import Derived.ChangeKeysEq
import Derived.Laws.StructEq
import Derived.Test.YtmpikpodpgnjhaaGreatVm5
namespace Go.Vm
set_option linter.all false
def yC(rec:TypeId→Option (List Nat)):Nat→List Field→Option (List Nat)
 |_,[]=>some []
 |off,f::fs=>bif (f.name != "_")&&f.offset==off then match rec f.type with
  |some ks=>match yC rec (off+ks.length) fs with
   |some r=>some (ks++r)
   |none=>none
  |none=>none
  else none
def sB(n:Nat)(ks:List Nat):List Nat :=
 match n with
 |0=>[]
 |n+1=>ks++sB n ks
def oL(P:Program):Nat→TypeId→Option (List Nat)
 |0,_=>none
 |m+1,t=>match P.underlying t with
  |some (.int _)=>bif fh P t==some 1 then some [0] else none
  |some .bool=>bif fh P t==some 1 then some [1] else none
  |some .string=>bif fh P t==some 1 then some [2] else none
  |some (.struct fs)=>bif P.stoodInHeld t then none else match yC (oL P m) 0 fs.toList with
   |some ks=>bif fh P t==some ks.length then some ks else none
   |none=>none
  |some (.array n e)=>match oL P m e with
   |some ks=>bif (fh P e==some ks.length)&&(fh P t==some (n*ks.length)) then some (sB n ks) else none
   |none=>none
  |_=>none
theorem Qt(n:Nat)(ks:List Nat):(sB n ks).length=n*ks.length:=by
 induction n with
 |zero=>simp[sB]
 |succ n ih=>simp[sB,ih,Nat.succ_mul];omega
theorem C6:∀{k1 k2:List Nat} {cs ds:List V} {b:Bool},eJ (k1++k2) cs ds=some b →
  ∃b1 b2,eJ k1 cs ds=some b1∧eJ k2 (cs.drop k1.length) (ds.drop k1.length)=some b2∧b=(b1&&b2)
 |[],k2,cs,ds,b,h=>⟨true,b,rfl,h,by simp⟩
 |k::k1,k2,[],ds,b,h=>by simp[eJ]at h
 |k::k1,k2,_::_,[],b,h=>by simp[eJ]at h
 |k::k1,k2,c::cs,d::ds,b,h=>by
  simp only[List.cons_append,eJ]at h;split at h
  ·rename_i p q hp hq
   obtain⟨b1,b2,h1,h2,h3⟩:=C6 hq;simp only[Option.some.injEq]at h;refine⟨p&&b1,b2,by simp[eJ,hp,h1],by simpa using h2,by rw[←h,h3,Bool.and_assoc]⟩
  ·cases h
theorem C7:∀{ks:List Nat} {cs ds:List V} {n:Nat} {b:Bool},ks.length≤n→eJ ks cs ds=some b→eJ ks (cs.take n) (ds.take n)=some b
 |[],cs,ds,n,b,_,h=>by cases cs<;>cases ds<;>simpa [eJ] using h
 |k::ks,[],ds,n,b,_,h=>by simp[eJ]at h
 |k::ks,_::_,[],n,b,_,h=>by simp[eJ]at h
 |k::ks,c::cs,d::ds,0,b,hn,h=>by simp at hn
 |k::ks,c::cs,d::ds,n+1,b,hn,h=>by
  simp only[eJ]at h;split at h
  ·rename_i p q hp hq
   simp only[List.take_succ_cons,eJ,hp,C7 (by simpa using hn) hq]
   exact h
  ·cases h
theorem Kd:∀{ks:List Nat} {cs ds:List V} {b:Bool},eJ ks cs ds=some b→ks.length≤cs.length∧ks.length≤ds.length
 |[],cs,ds,b,h=>by simp
 |k::ks,[],ds,b,h=>by simp[eJ]at h
 |k::ks,_::_,[],b,h=>by simp[eJ]at h
 |k::ks,c::cs,d::ds,b,h=>by
  simp only[eJ]at h;split at h
  ·rename_i p q hp hq
   have:=Kd hq;simp;omega
  ·cases h
structure nA(X:Cx)(cs:List V)(xs:Array Value):Prop where
 len:cs.length=xs.size
 rel:∀(j:Nat) (v:V) (y:Value),cs[j]?=some v→xs[j]?=some y→bj X v y
theorem nA.sub{X:Cx}{cs:List V}{xs:Array Value}(h:nA X cs xs)(o n:Nat)(hn:o+n≤cs.length):nA X ((cs.drop o).take n) (xs.extract o (o+n)):=by
 refine⟨by simp;have:=h.len;omega,fun j u y hu hy=>?_⟩
 simp only[List.getElem?_take,List.getElem?_drop]at hu;split at hu
 ·refine h.rel (o+j) u y hu ?_
  rw[Array.getElem?_extract]at hy;split at hy
  ·exact hy
  ·cases hy
 ·cases hu
theorem bj.yD{X:Cx}{k:IntKind}{n:Int}{x:Value}(h:bj X (.int k n) x):x=.int k n:=by
 cases h with|plain h _=>cases h;rfl
theorem bj.yE{X:Cx}{b:Bool}{x:Value}(h:bj X (.bool b) x):x=.bool b:=by
 cases h with|plain h _=>cases h;rfl
theorem bj.xc{X:Cx}{s:List UInt8}{x:Value}(h:bj X (.str s) x):∃z:ByteArray,x=.string z∧z.data.toList=s:=by
 cases h with|plain h _=>cases h;exact⟨_,rfl,rfl⟩
section
variable {P:Program} {w:World}
theorem Ke{t:TypeId}(ha:kl P t=some false){cs:List V}{xs:Array Value}{X:Cx}(h:nA X cs xs){o:Nat}{v:V}(hv:(cs.drop o)[0]?=some v) :
  ∃x,(part t xs o).run P w=.ok x w∧bj X v x:=by
 simp only[List.getElem?_drop,Nat.add_zero]at hv;have bG:o<xs.size:=by rw[←h.len];exact eZ hv
 exact⟨xs[o],by simp[part,xQ ha,bG],h.rel o v xs[o] hv (by simp[bG])⟩
theorem AW{t:TypeId}(ha:kl P t=some true){n:Nat}(hs:fh P t=some n){xs:Array Value}{o:Nat}:(part t xs o).run P w=.ok (.agg (xs.extract o (o+n))) w:=by
 simp[part,xQ ha,nW hs]
theorem Qu(a b:ByteArray):(a.toList==b.toList)=(a.data.toList==b.data.toList):=by
 rw[ByteArray.toList_eq,ByteArray.toList_eq]
theorem Qv{k m:Nat}{t:TypeId}(hu:(k=0∧∃q,P.underlying t=some (.int q))∨(k=1∧P.underlying t=some .bool)∨(k=2∧P.underlying t=some .string))
  {X:Cx} {u v:V} {x y:Value} (hx:bj X u x) (hy:bj X v y) {b:Bool} (h:jM k u v=some b):(Op.equalIn (m+1) t x y).run P w=.ok b w:=by
 unfold jM at h;split at h
 ·rename_i q1 a q2 c
  rcases hu with⟨_,q,hu⟩ | ⟨h0,_⟩ | ⟨h0,_⟩<;>first|omega|skip
  cases hk:decide (q1=q2) with
  |false=>simp[hk]at h
  |true =>
   have:=of_decide_eq_true hk;subst this;simp only[decide_true,cond_true,Option.some.injEq]at h;rw[hx.yD,hy.yD,run_equalIn_int w m t q1 q a c hu,h]
 ·rename_i a c
  rcases hu with⟨h0,_⟩ | ⟨_,hu⟩ | ⟨h0,_⟩<;>first|omega|skip
  rw[hx.yE,hy.yE,run_equalIn_bool' w m t a c hu];cases h;rfl
 ·rename_i a c
  rcases hu with⟨h0,_⟩ | ⟨h0,_⟩ | ⟨_,hu⟩<;>first|omega|skip
  obtain⟨a',rfl,rfl⟩:=hx.xc;obtain⟨c',rfl,rfl⟩:=hy.xc;rw[run_equalIn_string w m t a' c' hu,Qu];cases h;rfl
 ·cases h
def EqAt(P:Program)(m:Nat)(t:TypeId)(ks:List Nat):Prop :=
 ∀(w:World) (X:Cx) (d:Nat) (cs ds:List V) (xs ys:Array Value) (o:Nat) (b:Bool),nA X cs xs→nA X ds ys→eJ ks (cs.drop o) (ds.drop o)=some b →
  ∃x y,(part t xs o).run P w=.ok x w∧(part t ys o).run P w=.ok y w∧(Op.equalIn (m+d) t x y).run P w=.ok b w
theorem Qw{rec:TypeId→Option (List Nat)}{m:Nat}(ih:∀t ks,rec t=some ks→EqAt P m t ks)(w:World)(X:Cx)(d:Nat)(cs ds:List V)(xs ys:Array Value)
  (hx:nA X cs xs) (hy:nA X ds ys):∀(fs:List Field) (off:Nat) (ks:List Nat) (b:Bool),yC rec off fs=some ks→eJ ks (cs.drop off) (ds.drop off)=some b →
  (Op.eqFields (m+d) xs ys fs).run P w=.ok b w
 |[],off,ks,b,h,he=>by
  simp only[yC,Option.some.injEq]at h;subst h;simp[eJ]at he;subst he;simp[Op.eqFields]
 |f::fs,off,ks,b,h,he=>by
  simp only[yC]at h;cases hc:((f.name != "_")&&f.offset==off) with
  |false=>simp[hc]at h
  |true =>
   simp only[hc,cond_true]at h;simp only[Bool.and_eq_true,bne_iff_ne,ne_eq,beq_iff_eq]at hc;split at h
   ·rename_i k1 h1
    split at h
    ·rename_i r h2
     simp only[Option.some.injEq]at h;subst h;obtain⟨b1,b2,e1,e2,rfl⟩:=C6 he;rw[List.drop_drop,List.drop_drop]at e2;obtain⟨x,y,p1,p2,p3⟩:=ih f.type k1 h1 w X d cs ds xs ys off b1 hx hy e1;have sf:=Qw ih w X d cs ds xs ys hx hy fs (off+k1.length) r b2 h2 e2;simp only[Op.eqFields,ne_eq,hc.1,not_false_eq_true,if_true,Sem.run_bind,hc.2,p1,p2,p3,Result.andThen_ok];cases b1
     ·simp
     ·simpa using sf
    ·cases h
   ·cases h
theorem Qx{m:Nat}{e:TypeId}{ks:List Nat}(ih:EqAt P m e ks)(w:World)(X:Cx)(d:Nat)(cs ds:List V)(xs ys:Array Value)(hc:P.cellsOf e=ks.length)
  (hx:nA X cs xs) (hy:nA X ds ys):∀(n i:Nat) (b:Bool),eJ (sB n ks) (cs.drop (i*ks.length)) (ds.drop (i*ks.length))=some b →
  (Op.eqItems (m+d) e (P.cellsOf e) xs ys (List.range' i n)).run P w=.ok b w
 |0,i,b,he=>by
  simp[sB,eJ]at he;subst he;simp[Op.eqItems]
 |n+1,i,b,he=>by
  simp only[sB]at he;obtain⟨b1,b2,e1,e2,rfl⟩:=C6 he;rw[List.drop_drop,List.drop_drop,show i*ks.length+ks.length=(i+1)*ks.length from by rw[Nat.succ_mul]]at e2
  obtain⟨x,y,p1,p2,p3⟩:=ih w X d cs ds xs ys _ b1 hx hy e1;have sf:=Qx ih w X d cs ds xs ys hc hx hy n (i+1) b2 e2;rw[List.range'_succ];simp only[Op.eqItems,Sem.run_bind,hc,p1,p2,p3,Result.andThen_ok];rw[hc]at sf;cases b1
  ·simp
  ·simpa using sf
theorem Kf:∀(m:Nat) (t:TypeId) (ks:List Nat),oL P m t=some ks→EqAt P m t ks
 |0,t,ks,h=>by simp[oL]at h
 |m+1,t,ks,h=>by
  intro w X d cs ds xs ys o b hx hy he;have ih:=Kf m;have one:∀k,ks=[k]→kl P t=some false→((k=0∧∃q,P.underlying t=some (.int q))∨(k=1∧P.underlying t=some .bool)∨(k=2∧P.underlying t=some .string)) →
    ∃x y,(part t xs o).run P w=.ok x w∧(part t ys o).run P w=.ok y w∧(Op.equalIn (m+1+d) t x y).run P w=.ok b w:=by
   intro k hk ha hu;subst hk;cases fx:cs.drop o with
   |nil=>rw[fx]at he;simp[eJ]at he
   |cons u us =>
    cases rp:ds.drop o with
    |nil=>rw[fx,rp]at he;simp[eJ]at he
    |cons v vs =>
     rw[fx,rp]at he;simp only[eJ]at he;split at he
     ·rename_i p q hp hq
      cases hq;simp only[Bool.and_true,Option.some.injEq]at he;subst he;obtain⟨x,h1,h2⟩:=Ke (w:=w) ha hx (o:=o) (v:=u) (by rw[fx];rfl)
      obtain⟨y,h3,h4⟩:=Ke (w:=w) ha hy (o:=o) (v:=v) (by rw[rp];rfl)
      refine⟨x,y,h1,h3,?_⟩;rw[show m+1+d=(m+d)+1 from by omega]
      exact Qv hu h2 h4 hp
     ·cases he
  have agg:∀n,kl P t=some true→fh P t=some n→n=ks.length→(∀xs ys,nA X ((cs.drop o).take n) xs→nA X ((ds.drop o).take n) ys →
    eJ ks ((cs.drop o).take n) ((ds.drop o).take n)=some b→(Op.equalIn (m+1+d) t (.agg xs) (.agg ys)).run P w=.ok b w) →
    ∃x y,(part t xs o).run P w=.ok x w∧(part t ys o).run P w=.ok y w∧(Op.equalIn (m+1+d) t x y).run P w=.ok b w:=by
   intro n ha hs hn hk;obtain⟨l1,l2⟩:=Kd he;simp only[List.length_drop]at l1 l2;refine⟨_,_,AW ha hs,AW ha hs,?_⟩;rcases Nat.eq_zero_or_pos n with h0|h0
   ·have e1:nA X ((cs.drop o).take n) (xs.extract o (o+n)):=⟨by subst h0;simp;omega,by subst h0;simp⟩
    have e2:nA X ((ds.drop o).take n) (ys.extract o (o+n)):=⟨by subst h0;simp;omega,by subst h0;simp⟩
    exact hk _ _ e1 e2 (C7 (by omega) he)
   ·exact hk _ _ (hx.sub o n (by omega)) (hy.sub o n (by omega)) (C7 (by omega) he)
  simp only[oL]at h;split at h
  ·rename_i q hu
   cases hc:fh P t==some 1<;>simp[hc]at h;exact one 0 h.symm (by simp[kl,hu]) (.inl ⟨rfl,q,hu⟩)
  ·rename_i hu
   cases hc:fh P t==some 1<;>simp[hc]at h;exact one 1 h.symm (by simp[kl,hu]) (.inr (.inl ⟨rfl,hu⟩))
  ·rename_i hu
   cases hc:fh P t==some 1<;>simp[hc]at h;exact one 2 h.symm (by simp[kl,hu]) (.inr (.inr ⟨rfl,hu⟩))
  ·rename_i fs hu
   cases j8:P.stoodInHeld t with
   |true=>simp[j8]at h
   |false =>
    simp only[j8,cond_false]at h;split at h
    ·rename_i k1 h1
     cases hc:fh P t==some k1.length with
     |false=>simp[hc]at h
     |true =>
      simp only[hc,cond_true,Option.some.injEq]at h;subst h;refine agg _ (by simp[kl,hu]) (by simpa using hc) rfl fun xs ys r1 r2 he=>?_
      have hf:P.fieldsOf t=fs:=by simp[Program.fieldsOf,hu]
      rw[show m+1+d=(m+d)+1 from by omega,run_equalIn_struct w (m+d) t xs ys (by rw[hf];exact hu) j8,hf]
      exact Qw ih w X d _ _ xs ys r1 r2 _ 0 k1 b h1 he
    ·cases h
  ·rename_i n e hu
   split at h
   ·rename_i k1 h1
    cases hc:((fh P e==some k1.length)&&(fh P t==some (n*k1.length))) with
    |false=>simp[hc]at h
    |true =>
     simp only[hc,cond_true,Option.some.injEq]at h;simp only[Bool.and_eq_true,beq_iff_eq]at hc;subst h;refine agg _ (by simp[kl,hu]) hc.2 (Qt _ _).symm fun xs ys r1 r2 he=>?_
     have eH:=hc.1;simp only[fh,Option.map_eq_some_iff]at eH;obtain⟨i,hi,eH⟩:=eH;rw[show m+1+d=(m+d)+1 from by omega,run_equalIn_array w (m+d) xs ys hu hi,List.range_eq_range']
     exact Qx (ih e k1 h1) w X d _ _ xs ys (by simp[Program.cellsOf,hi,eH]) r1 r2 n 0 b (by simpa using he)
   ·cases h
  ·cases h
theorem XK{E:Entry}{g:Gh}{S S':St}{a:Act}{o:Oper}{neg:Bool}{t t':TypeId}{ks:List Nat}{p q:Operand}{x y:bB}{C:bC}(ho:o.op=.binOp (if neg then .neq else .eql) t p q t')
  (hk:oL P 100 t=some ks) (ha:kl P t=some true) (hm:P.eqGuardType P.depth t=false) (eH:fh P t=some ks.length) (hp:bX p x=true) (hq:bX q y=true)
  (hR:R E g S a w) (hd:∀d,o.dst=some d→d<E.nt) (aj:VO.run C o.dst S (.gW neg ks x y)=some S'):ct P E o S S' a w:=by
 simp only[VO.run]at aj;split at aj
 ·rename_i u0 v0 h1 h2
  split at aj
  ·rename_i z hz
   cases aj;unfold V.gW at hz;split at hz
   ·rename_i cs ds
    cases hl:(cs.length==ks.length&&ds.length==ks.length) with
    |false=>simp[hl]at hz
    |true =>
     simp only[hl,cond_true]at hz;simp only[Bool.and_eq_true,beq_iff_eq]at hl;split at hz
     ·rename_i b hb
      cases hz;obtain⟨xs,e1,l1,r1⟩:=pj (cZ hR hp h1);obtain⟨ys,e2,l2,r2⟩:=pj (cZ hR hq h2);obtain⟨u,v,q1,q2,q3⟩:=Kf 100 t ks hk w (S.cx g w) 9900 cs ds xs ys 0 b ⟨l1,r1⟩ ⟨l2,r2⟩ (by simpa using hb)
      rw[AW ha eH]at q1 q2;cases q1;cases q2;have ex:xs.extract 0 (0+ks.length)=xs:=by simp[←hl.1,l1]
      have ey:ys.extract 0 (0+ks.length)=ys:=by simp[←hl.2,l2]
      rw[ex,ey]at q3;refine ct.put hR hd (x:=.bool (bif neg then !b else b)) ?_ (bj.bool _);cases neg
      ·simp only[execOp,ho,e1,e2,Bool.false_eq_true,if_false,cond_false]
       simp[run_eqGuard_agg w .eql t p q xs ys hm,run_eql_struct,q3]
      ·simp only[execOp,ho,e1,e2,if_true,cond_true]
       simp[run_eqGuard_agg w .neq t p q xs ys hm,run_neq_struct,q3]
     ·cases hz
   ·cases hz
  ·cases aj
 ·cases aj
end
end Go.Vm
