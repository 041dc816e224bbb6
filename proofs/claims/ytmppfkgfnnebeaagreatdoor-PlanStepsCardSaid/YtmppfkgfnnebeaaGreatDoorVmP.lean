/- The value machine: equality of structs and arrays, cell by cell. -/
import Derived.ChangeKeysEq
import Derived.Laws.StructEq
import Derived.Test.YtmppfkgfnnebeaaGreatDoorVm5
namespace Go.Vm
set_option linter.all false
def C5(rec:TypeId→Option (List Nat)):Nat→List Field→Option (List Nat)
 |_,[]=>some []
 |off,f::fs=>bif (f.name != "_")&&f.offset==off then match rec f.type with
  |some ks=>match C5 rec (off+ks.length) fs with
   |some r=>some (ks++r)
   |none=>none
  |none=>none
  else none
def vU(n:Nat)(ks:List Nat):List Nat :=
 match n with
 |0=>[]
 |n+1=>ks++vU n ks
def qy(P:Program):Nat→TypeId→Option (List Nat)
 |0,_=>none
 |m+1,t=>match P.underlying t with
  |some (.int _)=>bif e9 P t==some 1 then some [0] else none
  |some .bool=>bif e9 P t==some 1 then some [1] else none
  |some .string=>bif e9 P t==some 1 then some [2] else none
  |some (.struct fs)=>bif P.stoodInHeld t then none else match C5 (qy P m) 0 fs.toList with
   |some ks=>bif e9 P t==some ks.length then some ks else none
   |none=>none
  |some (.array n e)=>match qy P m e with
   |some ks=>bif (e9 P e==some ks.length)&&(e9 P t==some (n*ks.length)) then some (vU n ks) else none
   |none=>none
  |_=>none
theorem Yt(n:Nat)(ks:List Nat):(vU n ks).length=n*ks.length:=by
 induction n with
 |zero=>simp[vU]
 |succ n ih=>simp[vU,ih,oS];omega
theorem Io:∀{k1 k2:List Nat} {cs ds:List V} {b:Bool},eC (k1++k2) cs ds=some b →
  ∃b1 b2,eC k1 cs ds=some b1∧eC k2 (cs.drop k1.length) (ds.drop k1.length)=some b2∧b=(b1&&b2)
 |[],k2,cs,ds,b,h=>⟨true,b,rfl,h,by simp⟩
 |k::k1,k2,[],ds,b,h=>by simp[eC]at h
 |k::k1,k2,_::_,[],b,h=>by simp[eC]at h
 |k::k1,k2,c::cs,d::ds,b,h=>by
  simp only[ud,eC]at h;split at h
  ·rename_i p q hp hq
   obtain⟨b1,b2,h1,h2,h3⟩:=Io hq;simp only[Option.some.injEq]at h;refine⟨p&&b1,b2,by simp[eC,hp,h1],by simpa using h2,by rw[←h,h3,Bool.and_assoc]⟩
  ·cases h
theorem Ip:∀{ks:List Nat} {cs ds:List V} {n:Nat} {b:Bool},ks.length≤n→eC ks cs ds=some b→eC ks (cs.take n) (ds.take n)=some b
 |[],cs,ds,n,b,_,h=>by cases cs<;>cases ds<;>simpa [eC] using h
 |k::ks,[],ds,n,b,_,h=>by simp[eC]at h
 |k::ks,_::_,[],n,b,_,h=>by simp[eC]at h
 |k::ks,c::cs,d::ds,0,b,hn,h=>by simp at hn
 |k::ks,c::cs,d::ds,n+1,b,hn,h=>by
  simp only[eC]at h;split at h
  ·rename_i p q hp hq
   simp only[OH,eC,hp,Ip (by simpa using hn) hq]
   exact h
  ·cases h
theorem QK:∀{ks:List Nat} {cs ds:List V} {b:Bool},eC ks cs ds=some b→ks.length≤cs.length∧ks.length≤ds.length
 |[],cs,ds,b,h=>by simp
 |k::ks,[],ds,b,h=>by simp[eC]at h
 |k::ks,_::_,[],b,h=>by simp[eC]at h
 |k::ks,c::cs,d::ds,b,h=>by
  simp only[eC]at h;split at h
  ·rename_i p q hp hq
   have:=QK hq;simp;omega
  ·cases h
structure pt(X:Cx)(cs:List V)(xs:Array Value):Prop where
 len:cs.length=xs.size
 rel:∀(j:Nat) (v:V) (y:Value),cs[j]?=some v→xs[j]?=some y→bb X v y
theorem pt.sub{X:Cx}{cs:List V}{xs:Array Value}(h:pt X cs xs)(o n:Nat)(hn:o+n≤cs.length):pt X ((cs.drop o).take n) (xs.extract o (o+n)):=by
 refine⟨by simp;have:=h.len;omega,fun j u y hu hy=>?_⟩
 simp only[iP,mn]at hu;split at hu
 ·refine h.rel (o+j) u y hu ?_
  rw[VD]at hy;split at hy
  ·exact hy
  ·cases hy
 ·cases hu
theorem bb.C6{X:Cx}{k:IntKind}{n:Int}{x:Value}(h:bb X (.int k n) x):x=.int k n:=by
 cases h with|plain h _=>cases h;rfl
theorem bb.C7{X:Cx}{b:Bool}{x:Value}(h:bb X (.bool b) x):x=.bool b:=by
 cases h with|plain h _=>cases h;rfl
theorem bb.BG{X:Cx}{s:List UInt8}{x:Value}(h:bb X (.str s) x):∃z:ByteArray,x=.string z∧z.data.toList=s:=by
 cases h with|plain h _=>cases h;exact⟨_,rfl,rfl⟩
section
variable {P:Program} {w:World}
theorem QL{t:TypeId}(ha:lp P t=some false){cs:List V}{xs:Array Value}{X:Cx}(h:pt X cs xs){o:Nat}{v:V}(hv:(cs.drop o)[0]?=some v) :
  ∃x,(part t xs o).run P w=.ok x w∧bb X v x:=by
 simp only[mn,wH]at hv;have bE:o<xs.size:=by rw[←h.len];exact eQ hv
 exact⟨xs[o],by simp[part,CI ha,bE],h.rel o v xs[o] hv (by simp[bE])⟩
theorem Fh{t:TypeId}(ha:lp P t=some true){n:Nat}(hs:e9 P t=some n){xs:Array Value}{o:Nat}:(part t xs o).run P w=.ok (.agg (xs.extract o (o+n))) w:=by
 simp[part,CI ha,oW hs]
theorem Yu(a b:ByteArray):(a.toList==b.toList)=(a.data.toList==b.data.toList):=by
 rw[ByteArray.toList_eq,ByteArray.toList_eq]
theorem Yv{k m:Nat}{t:TypeId}(hu:(k=0∧∃q,P.underlying t=some (.int q))∨(k=1∧P.underlying t=some .bool)∨(k=2∧P.underlying t=some .string))
  {X:Cx} {u v:V} {x y:Value} (hx:bb X u x) (hy:bb X v y) {b:Bool} (h:jW k u v=some b):(Op.equalIn (m+1) t x y).run P w=.ok b w:=by
 unfold jW at h;split at h
 ·rename_i q1 a q2 c
  rcases hu with⟨_,q,hu⟩ | ⟨h0,_⟩ | ⟨h0,_⟩<;>first|omega|skip
  cases hk:decide (q1=q2) with
  |false=>simp[hk]at h
  |true =>
   have:=G8 hk;subst this;simp only[decide_true,bG,Option.some.injEq]at h;rw[hx.C6,hy.C6,run_equalIn_int w m t q1 q a c hu,h]
 ·rename_i a c
  rcases hu with⟨h0,_⟩ | ⟨_,hu⟩ | ⟨h0,_⟩<;>first|omega|skip
  rw[hx.C7,hy.C7,run_equalIn_bool' w m t a c hu];cases h;rfl
 ·rename_i a c
  rcases hu with⟨h0,_⟩ | ⟨h0,_⟩ | ⟨_,hu⟩<;>first|omega|skip
  obtain⟨a',rfl,rfl⟩:=hx.BG;obtain⟨c',rfl,rfl⟩:=hy.BG;rw[run_equalIn_string w m t a' c' hu,Yu];cases h;rfl
 ·cases h
def EqAt(P:Program)(m:Nat)(t:TypeId)(ks:List Nat):Prop :=
 ∀(w:World) (X:Cx) (d:Nat) (cs ds:List V) (xs ys:Array Value) (o:Nat) (b:Bool),pt X cs xs→pt X ds ys→eC ks (cs.drop o) (ds.drop o)=some b →
  ∃x y,(part t xs o).run P w=.ok x w∧(part t ys o).run P w=.ok y w∧(Op.equalIn (m+d) t x y).run P w=.ok b w
theorem Yw{rec:TypeId→Option (List Nat)}{m:Nat}(ih:∀t ks,rec t=some ks→EqAt P m t ks)(w:World)(X:Cx)(d:Nat)(cs ds:List V)(xs ys:Array Value)
  (hx:pt X cs xs) (hy:pt X ds ys):∀(fs:List Field) (off:Nat) (ks:List Nat) (b:Bool),C5 rec off fs=some ks→eC ks (cs.drop off) (ds.drop off)=some b →
  (Op.eqFields (m+d) xs ys fs).run P w=.ok b w
 |[],off,ks,b,h,he=>by
  simp only[C5,Option.some.injEq]at h;subst h;simp[eC]at he;subst he;simp[Op.eqFields]
 |f::fs,off,ks,b,h,he=>by
  simp only[C5]at h;cases hc:((f.name != "_")&&f.offset==off) with
  |false=>simp[hc]at h
  |true =>
   simp only[hc,bG]at h;simp only[bS,bne_iff_ne,ne_eq,dO]at hc;split at h
   ·rename_i k1 h1
    split at h
    ·rename_i r h2
     simp only[Option.some.injEq]at h;subst h;obtain⟨b1,b2,e1,e2,rfl⟩:=Io he;rw[uX,uX]at e2;obtain⟨x,y,p1,p2,p3⟩:=ih f.type k1 h1 w X d cs ds xs ys off b1 hx hy e1;have vH:=Yw ih w X d cs ds xs ys hx hy fs (off+k1.length) r b2 h2 e2;simp only[Op.eqFields,ne_eq,hc.1,not_false_eq_true,if_true,Sem.run_bind,hc.2,p1,p2,p3,Result.andThen_ok];cases b1
     ·simp
     ·simpa using vH
    ·cases h
   ·cases h
theorem Yx{m:Nat}{e:TypeId}{ks:List Nat}(ih:EqAt P m e ks)(w:World)(X:Cx)(d:Nat)(cs ds:List V)(xs ys:Array Value)(hc:P.cellsOf e=ks.length)
  (hx:pt X cs xs) (hy:pt X ds ys):∀(n i:Nat) (b:Bool),eC (vU n ks) (cs.drop (i*ks.length)) (ds.drop (i*ks.length))=some b →
  (Op.eqItems (m+d) e (P.cellsOf e) xs ys (List.range' i n)).run P w=.ok b w
 |0,i,b,he=>by
  simp[vU,eC]at he;subst he;simp[Op.eqItems]
 |n+1,i,b,he=>by
  simp only[vU]at he;obtain⟨b1,b2,e1,e2,rfl⟩:=Io he;rw[uX,uX,show i*ks.length+ks.length=(i+1)*ks.length from by rw[oS]]at e2
  obtain⟨x,y,p1,p2,p3⟩:=ih w X d cs ds xs ys _ b1 hx hy e1;have vH:=Yx ih w X d cs ds xs ys hc hx hy n (i+1) b2 e2;rw[Eh];simp only[Op.eqItems,Sem.run_bind,hc,p1,p2,p3,Result.andThen_ok];rw[hc]at vH;cases b1
  ·simp
  ·simpa using vH
theorem QM:∀(m:Nat) (t:TypeId) (ks:List Nat),qy P m t=some ks→EqAt P m t ks
 |0,t,ks,h=>by simp[qy]at h
 |m+1,t,ks,h=>by
  intro w X d cs ds xs ys o b hx hy he;have ih:=QM m;have one:∀k,ks=[k]→lp P t=some false→((k=0∧∃q,P.underlying t=some (.int q))∨(k=1∧P.underlying t=some .bool)∨(k=2∧P.underlying t=some .string)) →
    ∃x y,(part t xs o).run P w=.ok x w∧(part t ys o).run P w=.ok y w∧(Op.equalIn (m+1+d) t x y).run P w=.ok b w:=by
   intro k hk ha hu;subst hk;cases ew:cs.drop o with
   |nil=>rw[ew]at he;simp[eC]at he
   |cons u us =>
    cases pV:ds.drop o with
    |nil=>rw[ew,pV]at he;simp[eC]at he
    |cons v vs =>
     rw[ew,pV]at he;simp only[eC]at he;split at he
     ·rename_i p q hp hq
      cases hq;simp only[Bool.and_true,Option.some.injEq]at he;subst he;obtain⟨x,h1,h2⟩:=QL (w:=w) ha hx (o:=o) (v:=u) (by rw[ew];rfl)
      obtain⟨y,h3,h4⟩:=QL (w:=w) ha hy (o:=o) (v:=v) (by rw[pV];rfl)
      refine⟨x,y,h1,h3,?_⟩;rw[show m+1+d=(m+d)+1 from by omega]
      exact Yv hu h2 h4 hp
     ·cases he
  have agg:∀n,lp P t=some true→e9 P t=some n→n=ks.length→(∀xs ys,pt X ((cs.drop o).take n) xs→pt X ((ds.drop o).take n) ys →
    eC ks ((cs.drop o).take n) ((ds.drop o).take n)=some b→(Op.equalIn (m+1+d) t (.agg xs) (.agg ys)).run P w=.ok b w) →
    ∃x y,(part t xs o).run P w=.ok x w∧(part t ys o).run P w=.ok y w∧(Op.equalIn (m+1+d) t x y).run P w=.ok b w:=by
   intro n ha hs hn hk;obtain⟨l1,l2⟩:=QK he;simp only[OC]at l1 l2;refine⟨_,_,Fh ha hs,Fh ha hs,?_⟩;rcases mq n with h0|h0
   ·have e1:pt X ((cs.drop o).take n) (xs.extract o (o+n)):=⟨by subst h0;simp;omega,by subst h0;simp⟩
    have e2:pt X ((ds.drop o).take n) (ys.extract o (o+n)):=⟨by subst h0;simp;omega,by subst h0;simp⟩
    exact hk _ _ e1 e2 (Ip (by omega) he)
   ·exact hk _ _ (hx.sub o n (by omega)) (hy.sub o n (by omega)) (Ip (by omega) he)
  simp only[qy]at h;split at h
  ·rename_i q hu
   cases hc:e9 P t==some 1<;>simp[hc]at h;exact one 0 h.symm (by simp[lp,hu]) (.inl ⟨rfl,q,hu⟩)
  ·rename_i hu
   cases hc:e9 P t==some 1<;>simp[hc]at h;exact one 1 h.symm (by simp[lp,hu]) (.inr (.inl ⟨rfl,hu⟩))
  ·rename_i hu
   cases hc:e9 P t==some 1<;>simp[hc]at h;exact one 2 h.symm (by simp[lp,hu]) (.inr (.inr ⟨rfl,hu⟩))
  ·rename_i fs hu
   cases ez:P.stoodInHeld t with
   |true=>simp[ez]at h
   |false =>
    simp only[ez,eD]at h;split at h
    ·rename_i k1 h1
     cases hc:e9 P t==some k1.length with
     |false=>simp[hc]at h
     |true =>
      simp only[hc,bG,Option.some.injEq]at h;subst h;refine agg _ (by simp[lp,hu]) (by simpa using hc) rfl fun xs ys r1 r2 he=>?_
      have hf:P.fieldsOf t=fs:=by simp[Program.fieldsOf,hu]
      rw[show m+1+d=(m+d)+1 from by omega,run_equalIn_struct w (m+d) t xs ys (by rw[hf];exact hu) ez,hf]
      exact Yw ih w X d _ _ xs ys r1 r2 _ 0 k1 b h1 he
    ·cases h
  ·rename_i n e hu
   split at h
   ·rename_i k1 h1
    cases hc:((e9 P e==some k1.length)&&(e9 P t==some (n*k1.length))) with
    |false=>simp[hc]at h
    |true =>
     simp only[hc,bG,Option.some.injEq]at h;simp only[bS,dO]at hc;subst h;refine agg _ (by simp[lp,hu]) hc.2 (Yt _ _).symm fun xs ys r1 r2 he=>?_
     have eg:=hc.1;simp only[e9,En]at eg;obtain⟨i,hi,eg⟩:=eg;rw[show m+1+d=(m+d)+1 from by omega,run_equalIn_array w (m+d) xs ys hu hi,GZ]
     exact Yx (ih e k1 h1) w X d _ _ xs ys (by simp[Program.cellsOf,hi,eg]) r1 r2 n 0 b (by simpa using he)
   ·cases h
  ·cases h
theorem ai1{E:Entry}{g:Gh}{S S':St}{a:Act}{o:Oper}{neg:Bool}{t t':TypeId}{ks:List Nat}{p q:Operand}{x y:bw}{C:bD}(ho:o.op=.binOp (if neg then .neq else .eql) t p q t')
  (hk:qy P 100 t=some ks) (ha:lp P t=some true) (hm:P.eqGuardType P.depth t=false) (eg:e9 P t=some ks.length) (hp:bU p x=true) (hq:bU q y=true)
  (hR:R E g S a w) (hd:∀d,o.dst=some d→d<E.nt) (hrun:VO.run C o.dst S (.iE neg ks x y)=some S'):ch P E o S S' a w:=by
 simp only[VO.run]at hrun;split at hrun
 ·rename_i u0 v0 h1 h2
  split at hrun
  ·rename_i z hz
   cases hrun;unfold V.iE at hz;split at hz
   ·rename_i cs ds
    cases hl:(cs.length==ks.length&&ds.length==ks.length) with
    |false=>simp[hl]at hz
    |true =>
     simp only[hl,bG]at hz;simp only[bS,dO]at hl;split at hz
     ·rename_i b hb
      cases hz;obtain⟨xs,e1,l1,r1⟩:=qS (cY hR hp h1);obtain⟨ys,e2,l2,r2⟩:=qS (cY hR hq h2);obtain⟨u,v,q1,q2,q3⟩:=QM 100 t ks hk w (S.cx g w) 9900 cs ds xs ys 0 b ⟨l1,r1⟩ ⟨l2,r2⟩ (by simpa using hb)
      rw[Fh ha eg]at q1 q2;cases q1;cases q2;have ex:xs.extract 0 (0+ks.length)=xs:=by simp[←hl.1,l1]
      have ey:ys.extract 0 (0+ks.length)=ys:=by simp[←hl.2,l2]
      rw[ex,ey]at q3;refine ch.put hR hd (x:=.bool (bif neg then !b else b)) ?_ (bb.bool _);cases neg
      ·simp only[execOp,ho,e1,e2,D9,if_false,eD]
       simp[run_eqGuard_agg w .eql t p q xs ys hm,run_eql_struct,q3]
      ·simp only[execOp,ho,e1,e2,if_true,bG]
       simp[run_eqGuard_agg w .neq t p q xs ys hm,run_neq_struct,q3]
     ·cases hz
   ·cases hz
  ·cases hrun
 ·cases hrun
end
end Go.Vm
