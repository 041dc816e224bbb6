/- The value machine, 2: how its values and its states stand to the model's. -/
import Derived.Orders
import Derived.Laws.Append
import Derived.Laws.Rows
import Derived.Test.YtmppfkgfnnebeaaGreatDoorVm1
namespace Go.Vm
set_option linter.all false
def cellAt(h:Array Obj)(b o:Nat):Option Value :=
 match h[b]? with
 |some (.cells c _ _)=>c[o]?
 |_=>none
theorem cell?_eq(w:World)(b o:Nat):w.cell? ⟨b,o,none⟩=cellAt w.heap b o:=by
 simp[World.cell?,cellAt];rfl
theorem A8{h:Array Obj}{b o:Nat}{y:Value}(hc:cellAt h b o=some y):b<h.size:=by
 unfold cellAt at hc;rcases cF b h.size with h' | h'
 ·exact h'
 ·simp[mF h']at hc
theorem kR{h:Array Obj}{b o:Nat}{c:Array Value}{e:TypeId}{fz:Nat×Nat}(hb:h[b]?=some (.cells c e fz)):cellAt h b o=c[o]?:=by
 simp[cellAt,hb]
theorem tn{h h':Array Obj}{b:Nat}(e:h'[b]?=h[b]?)(o:Nat):cellAt h' b o=cellAt h b o:=by
 simp[cellAt,e]
inductive fg (h:Array Obj) (m:Nat→Nat):V→Value→Prop
 |int (k n):fg h m (.int k n) (.int k n)
 |bool (b):fg h m (.bool b) (.bool b)
 |str (s:ByteArray):fg h m (.str s.data.toList) (.string s)
 |cb:fg h m .cb (.slice none 0 0)
 |nil (tok n):fg h m (.slice tok n []) (.slice none 0 0)
 |empty (tok n) (a:Addr) (cap:Nat):fg h m (.slice tok n []) (.slice (some a) 0 cap)
 |slice (tok:Option Nat) (n:Nat) (es:List (List V)) (b off cap:Nat) (ys:Nat→Nat→Value) (hb:b<h.size) (eo:es.length≤cap)
   (iH:∀(i:Nat) (row:List V),es[i]?=some row→row.length=n)
   (hc:∀(i:Nat) (row:List V) (j:Nat) (v:V),es[i]?=some row→row[j]?=some v→cellAt h b (off+i*n+j)=some (ys i j))
   (hv:∀(i:Nat) (row:List V) (j:Nat) (v:V),es[i]?=some row→row[j]?=some v→fg h m v (ys i j))
   (hp:∀(i:Nat) (row:List V) (j:Nat) (v:V),es[i]?=some row→row[j]?=some v→v.plain=true)
   (hm:off+es.length*n≤m b):fg h m (.slice tok n es) (.slice (some ⟨b,off,none⟩) es.length cap)
inductive Ow where
 |none
 |obj (id:Nat)
 |tok (f:Nat)
 |aA (i:Nat)
 |cell (b j:Nat)
 deriving DecidableEq
structure Gh where
 m:Nat→Nat
 κ:Nat→Nat
 cp:Nat→Nat
 τ:Nat→Option Nat
 γ:Nat→Nat
 ow:Nat→Ow
structure Cx where
 h:Array Obj
 g:Gh
 N:Nat
 T:List (Nat×Nat)
def lL(x:Value):Prop:=x=.slice none 0 0∨∃a,x=.slice (some a) 0 0
def zA(X:Cx)(f n k:Nat)(x:Value):Prop :=
 (k=0∧lL x)∨∃b off cap c e,X.g.τ f=some b∧x=.slice (some ⟨b,off,none⟩) k cap∧X.g.m b=off+k*n ∧
  X.h[b]?=some (.cells c e (0,0))∧off+cap*n≤c.size∧off=0∧0<k
def V8(X:Cx)(v:V)(x:Value):Prop :=
 ∀f n es,v=.slice (some f) n es→∀k,look f X.T=some k→es.length≤k∧(k=es.length→zA X f n k x)
inductive bb (X:Cx):V→Value→Prop
 |undef:bb X .undef Go.undef
 |plain {v x} (h:fg X.h X.g.m v x) (ht:V8 X v x):bb X v x
 |eF {n es x} (h:fg X.h X.g.m (.slice none n es) x):bb X (.eF n es) x
 |dY {n x} (h:lL x):bb X (.dY n) x
 |fG (n a cap):bb X (.fG n) (.slice (some a) 0 cap)
 |bJ (id off):bb X (.bJ id off) (.pointer (some ⟨X.g.κ id,off,none⟩))
 |bR (id s len cap) (h:len≤cap) (hc:cap*s=X.g.cp id):bb X (.bR id s len) (.slice (some ⟨X.g.κ id,0,none⟩) len cap)
 |qP (id s) {x} (h:lL x) (hc:X.g.cp id=0):bb X (.bR id s 0) x
 |fp (id s off len cap) (h:len≤cap):bb X (.fp id s off len) (.slice (some ⟨X.g.κ id,off*s,none⟩) len cap)
 |c5 (i s len cap) (h:i<X.N) (hl:len≤cap):bb X (.c5 i s len) (.slice (some ⟨X.g.γ i,0,none⟩) len cap)
 |ui (i s) {x} (h:i<X.N) (hz:lL x):bb X (.c5 i s 0) x
 |g9 (i s off len cap) (h:i<X.N) (hl:len≤cap):bb X (.g9 i s off len) (.slice (some ⟨X.g.γ i,off*s,none⟩) len cap)
 |bm (i off) (h:i<X.N):bb X (.bm i off) (.pointer (some ⟨X.g.γ i,off,none⟩))
 |gq:bb X .gq (.pointer none)
 |eP (row:List V) (off b o:Nat) (ys:Nat→Value) (hb:b<X.h.size) (hc:∀(j:Nat) (v:V),row[j]?=some v→cellAt X.h b (o+j)=some (ys j))
   (hv:∀(j:Nat) (v:V),row[j]?=some v→fg X.h X.g.m v (ys j)) (hp:∀(j:Nat) (v:V),row[j]?=some v→v.plain=true) (hm:o+row.length≤X.g.m b):bb X (.eP row off) (.pointer (some ⟨b,o+off,none⟩))
 |fn (f:FuncId) (cap:List V) (xs:Array Value) (hl:cap.length=xs.size) (hx:∀(j:Nat) (v:V),cap[j]?=some v→∃i o,v=.bm i o∧i<X.N∧xs[j]?=some (.pointer (some ⟨X.g.γ i,o,none⟩))) :
   bb X (.fn f cap) (.func (.func (jq f)) #[] xs)
 |gu:bb X .gu .nilFunc
 |map (i) (h:i<X.N):bb X (.map i) (.map (some (X.g.γ i)))
 |gw:bb X .gw (.map none)
 |agg (cs:List V) (xs:Array Value) (hl:cs.length=xs.size) (hx:∀(i:Nat) (v:V) (x:Value),cs[i]?=some v→xs[i]?=some x→bb X v x):bb X (.agg cs) (.agg xs)
 |tuple (cs:List V) (xs:Array Value) (hl:cs.length=xs.size) (hx:∀(i:Nat) (v:V) (x:Value),cs[i]?=some v→xs[i]?=some x→bb X v x):bb X (.tuple cs) (.tuple xs)
structure Le(X X':Cx):Prop where
 size:X.h.size≤X'.h.size
 cells:∀b o y,o<X.g.m b→cellAt X.h b o=some y→cellAt X'.h b o=some y
 m:∀b,b<X.h.size→X.g.m b≤X'.g.m b
 eK:X.N≤X'.N
 γ:∀i,i<X.N→X'.g.γ i=X.g.γ i
theorem fg.mono{X X':Cx}(le:Le X X'){v:V}{x:Value}(h:fg X.h X.g.m v x):fg X'.h X'.g.m v x:=by
 induction h with
 |int k n=>exact .int k n
 |bool b=>exact .bool b
 |str s=>exact .str s
 |cb=>exact .cb
 |nil t n=>exact .nil t n
 |empty t n a cap=>exact .empty t n a cap
 |slice tok n es b off cap ys hb eo iH hc hv hp hm ih =>
  have zB:=le.m b hb;refine .slice tok n es b off cap ys (iC hb le.size) eo iH (fun i row j v hr hj=>?_) ih hp (by omega)
  refine le.cells _ _ _ ?_ (hc i row j v hr hj);have h1:i<es.length:=by
   rcases cF i es.length with h' | h'
   ·exact h'
   ·simp[jT h']at hr
  have h2:j<row.length:=by
   rcases cF j row.length with h' | h'
   ·exact h'
   ·simp[jT h']at hj
  have h3:=iH i row hr;have h4:i*n+n≤es.length*n:=by
   have:=tf n h1;rw[oS]at this;exact this
  omega
structure jg(X X':Cx)(d:Nat):Prop where
 κ:X'.g.κ d=X.g.κ d
 cp:X'.g.cp d=X.g.cp d
 tok:∀k',look d X'.T=some k'→∃k,look d X.T=some k∧k≤k'∧(k'=k→X'.g.τ d=X.g.τ d∧∀b,X.g.τ d=some b →
  X'.g.m b=X.g.m b∧∀c e,X.h[b]?=some (.cells c e (0,0))→∃c',X'.h[b]?=some (.cells c' e (0,0))∧c'.size=c.size)
theorem jg.refl(X:Cx)(d:Nat):jg X X d:=⟨rfl,rfl,fun k h=>⟨k,h,bV _,fun _=>⟨rfl,fun _ _=>⟨rfl,fun c _ h=>⟨c,h,rfl⟩⟩⟩⟩⟩
theorem uj{d:Nat}{v:V}(h:v.cA d=false):v.cq d=false:=by
 cases v<;>simp_all[V.cq,V.dF,V.cA]
theorem V9{d:Nat}{cs:List V}(h:(V.agg cs).cq d=false){v:V}(hv:v∈cs):v.cq d=false:=by
 simp only[V.cq,V.dF,nF]at h;exact uj (by simpa using h v hv)
theorem wT{d:Nat}{v:V}(h:v.dF d=false):v.cq d=false:=by
 cases v with
 |tuple vs=>simp[V.dF,V.cA]at h
 |_=>simpa [V.cq] using h
theorem Wa{d:Nat}{cs:List V}(h:(V.tuple cs).cq d=false){v:V}(hv:v∈cs):v.cq d=false:=by
 simp only[V.cq,nF]at h;exact wT (by simpa using h v hv)
theorem zA.mono{X X':Cx}{f n k:Nat}{x:Value}(hτ:X'.g.τ f=X.g.τ f)
  (hb:∀b,X.g.τ f=some b→X'.g.m b=X.g.m b∧∀c e,X.h[b]?=some (.cells c e (0,0))→∃c',X'.h[b]?=some (.cells c' e (0,0))∧c'.size=c.size)
  (h:zA X f n k x):zA X' f n k x:=by
 rcases h with h | ⟨b,off,cap,c,e,h1,h2,h3,h4,h5⟩
 ·exact .inl h
 ·obtain⟨hm,hc⟩:=hb b h1
  obtain⟨c',h6,h7⟩:=hc c e h4;exact .inr ⟨b,off,cap,c',e,by rw[hτ,h1],h2,by omega,h6,by omega,h5.2⟩
theorem bb.mono{X X':Cx}(le:Le X X'){v:V}{x:Value}(h:bb X v x)(keep:∀d,jg X X' d∨v.cq d=false):bb X' v x:=by
 induction h with
 |undef=>exact .undef
 |plain hv ht =>
  refine .plain (hv.mono le) (fun f n es OL k hk=>?_);subst OL;rcases keep f with kp|kp
  ·obtain⟨k0,h0,hle,ahy⟩:=kp.tok k hk
   obtain⟨h1,h2⟩:=ht f n es rfl k0 h0;refine⟨iQ h1 hle,fun hke=>?_⟩;have:k0=k:=by omega
   subst this;obtain⟨a,b⟩:=ahy rfl;exact(h2 hke).mono a b
  ·simp[V.cq,V.dF,V.cA]at kp
 |eF h=>exact .eF (h.mono le)
 |dY h=>exact .dY h
 |fG n a cap=>exact .fG n a cap
 |bJ id off =>
  rcases keep id with kp|kp
  ·rw[←kp.κ];exact .bJ id off
  ·simp[V.cq,V.dF,V.cA]at kp
 |bR id off len cap h hc =>
  rcases keep id with kp|kp
  ·rw[←kp.κ];exact .bR id off len cap h (hc.trans kp.cp.symm)
  ·simp[V.cq,V.dF,V.cA]at kp
 |qP id s h hc =>
  rcases keep id with kp|kp
  ·exact .qP id s h (kp.cp.trans hc)
  ·simp[V.cq,V.dF,V.cA]at kp
 |fp id s off len cap h =>
  rcases keep id with kp|kp
  ·rw[←kp.κ];exact .fp id s off len cap h
  ·simp[V.cq,V.dF,V.cA]at kp
 |c5 i s len cap h hl=>rw[←le.γ i h];exact .c5 i s len cap (iC h le.eK) hl
 |ui i s h hz=>exact .ui i s (iC h le.eK) hz
 |g9 i s off len cap h hl=>rw[←le.γ i h];exact .g9 i s off len cap (iC h le.eK) hl
 |bm i off h=>rw[←le.γ i h];exact .bm i off (iC h le.eK)
 |gq=>exact .gq
 |eP row off b o ys hb hc hv hp hm =>
  refine .eP row off b o ys (iC hb le.size) (fun j v hj=>le.cells _ _ _ ?_ (hc j v hj)) (fun j v hj=>(hv j v hj).mono le) hp (iQ hm (le.m b hb));have:j<row.length:=by
   rcases cF j row.length with h' | h'
   ·exact h'
   ·simp[jT h']at hj
  omega
 |fn f cap xs hl hx =>
  refine .fn f cap xs hl (fun j v hj=>?_);obtain⟨i,o,h1,h2,h3⟩:=hx j v hj;exact⟨i,o,h1,iC h2 le.eK,by rw[le.γ i h2];exact h3⟩
 |gu=>exact .gu
 |map i h=>rw[←le.γ i h];exact .map i (iC h le.eK)
 |gw=>exact .gw
 |agg cs xs hl hx ih=>exact .agg cs xs hl (fun i v x hv mr=>ih i v x hv mr (fun d=>(keep d).imp id (fun hm=>V9 hm (fW hv))))
 |tuple cs xs hl hx ih=>exact .tuple cs xs hl (fun i v x hv mr=>ih i v x hv mr (fun d=>(keep d).imp id (fun hm=>Wa hm (fW hv))))
def St.cx(S:St)(g:Gh)(w:World):Cx:=⟨w.heap,g,S.aA.length,S.bj⟩
def Hd(h:Array Obj)(g:Gh)(N b:Nat):aS→Prop
 |.cells cs=>g.m b=0∧∃c e,h[b]?=some (.cells c e (0,0))∧cs.length≤c.size∧∀(j:Nat) (v:V) (y:Value),cs[j]?=some v→c[j]?=some y→v.cL=true∧(∀d,v.cq d=false)∧bb ⟨h,g,N,[]⟩ v y
 |.map es=>g.m b=0∧∃c k,h[b]?=some (.map c k)∧es.length=c.size∧∀(j:Nat) (p:V×V) (y:MapEntry),es[j]?=some p→c[j]?=some y →
   (∀d,p.1.cq d=false)∧(∀d,p.2.dF d=false)∧bb ⟨h,g,N,[]⟩ p.1 y.key∧bb ⟨h,g,N,[]⟩ p.2 y.val
def End(h:Array Obj)(g:Gh)(b j n k:Nat)(x:Value):Prop :=
 (k=0∧lL x)∨∃q cap c e,x=.slice (some ⟨q,0,none⟩) k cap∧g.ow q=.cell b j∧g.m q=k*n∧h[q]?=some (.cells c e (0,0))∧cap*n≤c.size∧0<k
def CD(h:Array Obj)(g:Gh)(b:Nat):aS→Prop
 |.cells cs=>∀(j n:Nat) (es:List (List V)) (y:Value),cs[j]?=some (.eF n es)→cellAt h b j=some y→End h g b j n es.length y
 |.map _=>True
structure tp(h:Array Obj)(g:Gh)(G:List aS):Prop where
 obj:∀i o,G[i]?=some o→o=.cells []∨g.ow (g.γ i)=.aA i∧Hd h g G.length (g.γ i) o
 own:∀i o,G[i]?=some o→CD h g (g.γ i) o
 z:∀b i,g.ow b=.aA i→g.m b=0∧i<G.length
abbrev Pk:=List (Nat×List V)
def oU(T:Pk)(h:Array Obj)(m:Nat→Nat):Prop:=∀k row,(k,row)∈T→k<h.size∧row.length≤m k∧∀(j:Nat) (v:V),row[j]?=some v→v.plain=true∧∃y,cellAt h k j=some y∧fg h m v y
theorem oU.mono{T:Pk}{X X':Cx}(le:Le X X')(h:oU T X.h X.g.m):oU T X'.h X'.g.m:=fun k row hk=>by
 obtain⟨h1,h2,h3⟩:=h k row hk;refine⟨iC h1 le.size,iQ h2 (le.m k h1),fun j v hj=>?_⟩;obtain⟨h4,y,h5,h6⟩:=h3 j v hj;have:j<row.length:=by
  rcases cF j row.length with h' | h'
  ·exact h'
  ·simp[jT h']at hj
 exact⟨h4,y,le.cells _ _ _ (by omega) h5,h6.mono le⟩
structure Entry where
 w0:World
 g0:Gh
 N0:Nat
 nt:Nat
 ds:List Deferred
 T:Pk
 pk:oU T w0.heap g0.m
 z:∀b i,g0.ow b=.aA i→g0.m b=0
def Entry.own(E:Entry)(b:Nat):Prop:=∃p q,E.g0.ow b=.cell p q
structure Wb(E:Entry)(g:Gh)(N:Nat)(w:World):Prop where
 os:w.os=E.w0.os
 tape:w.tape=E.w0.tape
 output:w.output=E.w0.output
 size:E.w0.heap.size≤w.heap.size
 eK:E.N0≤N
 γ:∀i,i<E.N0→g.γ i=E.g0.γ i
 γnew:∀i,E.N0≤i→i<N→E.w0.heap.size≤g.γ i
 kA:∀b,b<E.w0.heap.size→(∀i,i<E.N0→E.g0.ow b≠.aA i)→¬ E.own b→w.heap[b]?=E.w0.heap[b]?∧g.m b=E.g0.m b
 grow:∀b,b<E.w0.heap.size→E.own b→(∀o y,o<E.g0.m b→cellAt E.w0.heap b o=some y→cellAt w.heap b o=some y)∧E.g0.m b≤g.m b
 iq:∀b p q,b<E.w0.heap.size→g.ow b=.cell p q→E.own b
 lv:∀b i,g.ow b=.aA i→b<E.w0.heap.size→E.g0.ow b=.aA i∧i<E.N0
structure R(E:Entry)(g:Gh)(S:St)(a:Act)(w:World):Prop where
 env:∀s v,look s S.env=some v→∃x,a.tmps[s]?=some x∧bb (S.cx g w) v x
 aW:∀id cs,look id S.aW=some cs→(cs=[]∧g.cp id=0)∨g.ow (g.κ id)=.obj id∧E.w0.heap.size≤g.κ id∧g.m (g.κ id)=0 ∧
  ∃c e,w.heap[g.κ id]?=some (.cells c e (0,0))∧g.cp id≤c.size∧∀(j:Nat) (v:V),cs[j]?=some v→v.cL=true∧∃y,c[j]?=some y∧bb (S.cx g w) v y
 bj:∀f k b,look f S.bj=some k→g.τ f=some b→g.ow b=.tok f∧(E.w0.heap.size≤b∨E.own b)∧b<w.heap.size
 aA:tp w.heap g S.aA
 defers:a.defers=E.ds
 js:a.tmps.size=E.nt
 same:Wb E g S.aA.length w
theorem R.nM{E:Entry}{g:Gh}{S:St}{a:Act}{w:World}(hR:R E g S a w):Le ⟨E.w0.heap,E.g0,E.N0,[]⟩ (S.cx g w) where
 size:=hR.same.size
 cells:=fun b o y ho hc=>by
  have hb:=A8 hc;by_cases h1:E.own b
  ·exact(hR.same.grow b hb h1).1 o y ho hc
  ·by_cases h2:∃i,E.g0.ow b=.aA i
   ·obtain⟨i,h2⟩:=h2
    have:=E.z b i h2;exact absurd ho (by show ¬ o<E.g0.m b;omega)
   ·exact(tn (hR.same.kA b hb (fun i _ h=>h2 ⟨i,h⟩) h1).1 o).trans hc
 m:=fun b hb=>by
  by_cases h1:E.own b
  ·exact(hR.same.grow b hb h1).2
  ·by_cases h2:∃i,E.g0.ow b=.aA i
   ·obtain⟨i,h2⟩:=h2
    have:=E.z b i h2;show E.g0.m b≤_;omega
   ·exact u6 (hR.same.kA b hb (fun i _ h=>h2 ⟨i,h⟩) h1).2.symm
 eK:=hR.same.eK
 γ:=hR.same.γ
theorem R.pk{E:Entry}{g:Gh}{S:St}{a:Act}{w:World}(hR:R E g S a w):oU E.T w.heap g.m:=oU.mono (X:=⟨E.w0.heap,E.g0,E.N0,[]⟩) (X':=S.cx g w) hR.nM E.pk
end Go.Vm
