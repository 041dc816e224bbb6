/- The value machine, 2: how its values and its states stand to the model's. -/
import Derived.Orders
import Derived.Laws.Append
import Derived.Laws.Rows
import Derived.Test.YtcelmhaoipbdiaaGreatVm1
namespace Go.Vm
set_option linter.all false
def cellAt(h:Array Obj)(b o:Nat):Option Value :=
 match h[b]? with
 |some (.cells c _ _)=>c[o]?
 |_=>none
theorem cell?_eq(w:World)(b o:Nat):w.cell? ⟨b,o,none⟩=cellAt w.heap b o:=by
 simp[World.cell?,cellAt];rfl
theorem Bs{h:Array Obj}{b o:Nat}{y:Value}(hc:cellAt h b o=some y):b<h.size:=by
 unfold cellAt at hc;rcases cM b h.size with h' | h'
 ·exact h'
 ·simp[nb h']at hc
theorem lP{h:Array Obj}{b o:Nat}{c:Array Value}{e:TypeId}{fz:Nat×Nat}(hb:h[b]?=some (.cells c e fz)):cellAt h b o=c[o]?:=by
 simp[cellAt,hb]
theorem tE{h h':Array Obj}{b:Nat}(e:h'[b]?=h[b]?)(o:Nat):cellAt h' b o=cellAt h b o:=by
 simp[cellAt,e]
inductive fF (h:Array Obj) (m:Nat→Nat):V→Value→Prop
 |int (k n):fF h m (.int k n) (.int k n)
 |bool (b):fF h m (.bool b) (.bool b)
 |str (s:ByteArray):fF h m (.str s.data.toList) (.string s)
 |bU:fF h m .bU (.slice none 0 0)
 |nil (tok n):fF h m (.slice tok n []) (.slice none 0 0)
 |empty (tok n) (a:Addr) (cap:Nat):fF h m (.slice tok n []) (.slice (some a) 0 cap)
 |slice (tok:Option Nat) (n:Nat) (es:List (List V)) (b off cap:Nat) (ys:Nat→Nat→Value) (hb:b<h.size) (eK:es.length≤cap)
   (jc:∀(i:Nat) (row:List V),es[i]?=some row→row.length=n)
   (hc:∀(i:Nat) (row:List V) (j:Nat) (v:V),es[i]?=some row→row[j]?=some v→cellAt h b (off+i*n+j)=some (ys i j))
   (hv:∀(i:Nat) (row:List V) (j:Nat) (v:V),es[i]?=some row→row[j]?=some v→fF h m v (ys i j))
   (hp:∀(i:Nat) (row:List V) (j:Nat) (v:V),es[i]?=some row→row[j]?=some v→v.plain=true)
   (hm:off+es.length*n≤m b):fF h m (.slice tok n es) (.slice (some ⟨b,off,none⟩) es.length cap)
inductive Ow where
 |none
 |obj (id:Nat)
 |tok (f:Nat)
 |aD (i:Nat)
 |cell (b j:Nat)
 deriving DecidableEq
structure Gh where
 m:Nat→Nat
 κ:Nat→Nat
 cp:Nat→Nat
 τ:Nat→Option Nat
 γ:Nat→Nat
 ow:Nat→Ow
structure Cx where
 h:Array Obj
 g:Gh
 N:Nat
 T:List (Nat×Nat)
def mr(x:Value):Prop:=x=.slice none 0 0∨∃a,x=.slice (some a) 0 0
def zN(X:Cx)(f n k:Nat)(x:Value):Prop :=
 (k=0∧mr x)∨∃b off cap c e,X.g.τ f=some b∧x=.slice (some ⟨b,off,none⟩) k cap∧X.g.m b=off+k*n ∧
  X.h[b]?=some (.cells c e (0,0))∧off+cap*n≤c.size∧off=0∧0<k
def WU(X:Cx)(v:V)(x:Value):Prop :=
 ∀f n es,v=.slice (some f) n es→∀k,look f X.T=some k→es.length≤k∧(k=es.length→zN X f n k x)
inductive bf (X:Cx):V→Value→Prop
 |undef:bf X .undef Go.undef
 |plain {v x} (h:fF X.h X.g.m v x) (ht:WU X v x):bf X v x
 |fE {n es x} (h:fF X.h X.g.m (.slice none n es) x):bf X (.fE n es) x
 |ea {n x} (h:mr x):bf X (.ea n) x
 |gd (n a cap):bf X (.gd n) (.slice (some a) 0 cap)
 |bj (id off):bf X (.bj id off) (.pointer (some ⟨X.g.κ id,off,none⟩))
 |bR (id s len cap) (h:len≤cap) (hc:cap*s=X.g.cp id):bf X (.bR id s len) (.slice (some ⟨X.g.κ id,0,none⟩) len cap)
 |rP (id s) {x} (h:mr x) (hc:X.g.cp id=0):bf X (.bR id s 0) x
 |fT (id s off len cap) (h:len≤cap):bf X (.fT id s off len) (.slice (some ⟨X.g.κ id,off*s,none⟩) len cap)
 |c6 (i s len cap) (h:i<X.N) (hl:len≤cap):bf X (.c6 i s len) (.slice (some ⟨X.g.γ i,0,none⟩) len cap)
 |uD (i s) {x} (h:i<X.N) (hz:mr x):bf X (.c6 i s 0) x
 |iM (i s off len cap) (h:i<X.N) (hl:len≤cap):bf X (.iM i s off len) (.slice (some ⟨X.g.γ i,off*s,none⟩) len cap)
 |bH (i off) (h:i<X.N):bf X (.bH i off) (.pointer (some ⟨X.g.γ i,off,none⟩))
 |gK:bf X .gK (.pointer none)
 |e8 (row:List V) (off b o:Nat) (ys:Nat→Value) (hb:b<X.h.size) (hc:∀(j:Nat) (v:V),row[j]?=some v→cellAt X.h b (o+j)=some (ys j))
   (hv:∀(j:Nat) (v:V),row[j]?=some v→fF X.h X.g.m v (ys j)) (hp:∀(j:Nat) (v:V),row[j]?=some v→v.plain=true) (hm:o+row.length≤X.g.m b):bf X (.e8 row off) (.pointer (some ⟨b,o+off,none⟩))
 |fn (f:FuncId) (cap:List V) (xs:Array Value) (hl:cap.length=xs.size) (hx:∀(j:Nat) (v:V),cap[j]?=some v→∃i o,v=.bH i o∧i<X.N∧xs[j]?=some (.pointer (some ⟨X.g.γ i,o,none⟩))) :
   bf X (.fn f cap) (.func (.func (jA f)) #[] xs)
 |gL:bf X .gL .nilFunc
 |map (i) (h:i<X.N):bf X (.map i) (.map (some (X.g.γ i)))
 |gM:bf X .gM (.map none)
 |agg (cs:List V) (xs:Array Value) (hl:cs.length=xs.size) (hx:∀(i:Nat) (v:V) (x:Value),cs[i]?=some v→xs[i]?=some x→bf X v x):bf X (.agg cs) (.agg xs)
 |tuple (cs:List V) (xs:Array Value) (hl:cs.length=xs.size) (hx:∀(i:Nat) (v:V) (x:Value),cs[i]?=some v→xs[i]?=some x→bf X v x):bf X (.tuple cs) (.tuple xs)
structure Le(X X':Cx):Prop where
 size:X.h.size≤X'.h.size
 cells:∀b o y,o<X.g.m b→cellAt X.h b o=some y→cellAt X'.h b o=some y
 m:∀b,b<X.h.size→X.g.m b≤X'.g.m b
 eW:X.N≤X'.N
 γ:∀i,i<X.N→X'.g.γ i=X.g.γ i
theorem fF.mono{X X':Cx}(le:Le X X'){v:V}{x:Value}(h:fF X.h X.g.m v x):fF X'.h X'.g.m v x:=by
 induction h with
 |int k n=>exact .int k n
 |bool b=>exact .bool b
 |str s=>exact .str s
 |bU=>exact .bU
 |nil t n=>exact .nil t n
 |empty t n a cap=>exact .empty t n a cap
 |slice tok n es b off cap ys hb eK jc hc hv hp hm ih =>
  have zO:=le.m b hb;refine .slice tok n es b off cap ys (ja hb le.size) eK jc (fun i row j v hr hj=>?_) ih hp (by omega)
  refine le.cells _ _ _ ?_ (hc i row j v hr hj);have h1:i<es.length:=by
   rcases cM i es.length with h' | h'
   ·exact h'
   ·simp[mo h']at hr
  have h2:j<row.length:=by
   rcases cM j row.length with h' | h'
   ·exact h'
   ·simp[mo h']at hj
  have h3:=jc i row hr;have h4:i*n+n≤es.length*n:=by
   have:=rM n h1;rw[oI]at this;exact this
  omega
structure jB(X X':Cx)(d:Nat):Prop where
 κ:X'.g.κ d=X.g.κ d
 cp:X'.g.cp d=X.g.cp d
 tok:∀k',look d X'.T=some k'→∃k,look d X.T=some k∧k≤k'∧(k'=k→X'.g.τ d=X.g.τ d∧∀b,X.g.τ d=some b →
  X'.g.m b=X.g.m b∧∀c e,X.h[b]?=some (.cells c e (0,0))→∃c',X'.h[b]?=some (.cells c' e (0,0))∧c'.size=c.size)
theorem jB.refl(X:Cx)(d:Nat):jB X X d:=⟨rfl,rfl,fun k h=>⟨k,h,bY _,fun _=>⟨rfl,fun _ _=>⟨rfl,fun c _ h=>⟨c,h,rfl⟩⟩⟩⟩⟩
theorem uF{d:Nat}{v:V}(h:v.cI d=false):v.cA d=false:=by
 cases v<;>simp_all[V.cA,V.dP,V.cI]
theorem WV{d:Nat}{cs:List V}(h:(V.agg cs).cA d=false){v:V}(hv:v∈cs):v.cA d=false:=by
 simp only[V.cA,V.dP,mR]at h;exact uF (by simpa using h v hv)
theorem wW{d:Nat}{v:V}(h:v.dP d=false):v.cA d=false:=by
 cases v with
 |tuple vs=>simp[V.dP,V.cI]at h
 |_=>simpa [V.cA] using h
theorem WW{d:Nat}{cs:List V}(h:(V.tuple cs).cA d=false){v:V}(hv:v∈cs):v.cA d=false:=by
 simp only[V.cA,mR]at h;exact wW (by simpa using h v hv)
theorem zN.mono{X X':Cx}{f n k:Nat}{x:Value}(hτ:X'.g.τ f=X.g.τ f)
  (hb:∀b,X.g.τ f=some b→X'.g.m b=X.g.m b∧∀c e,X.h[b]?=some (.cells c e (0,0))→∃c',X'.h[b]?=some (.cells c' e (0,0))∧c'.size=c.size)
  (h:zN X f n k x):zN X' f n k x:=by
 rcases h with h | ⟨b,off,cap,c,e,h1,h2,h3,h4,h5⟩
 ·exact .inl h
 ·obtain⟨hm,hc⟩:=hb b h1
  obtain⟨c',h6,h7⟩:=hc c e h4;exact .inr ⟨b,off,cap,c',e,by rw[hτ,h1],h2,by omega,h6,by omega,h5.2⟩
theorem bf.mono{X X':Cx}(le:Le X X'){v:V}{x:Value}(h:bf X v x)(keep:∀d,jB X X' d∨v.cA d=false):bf X' v x:=by
 induction h with
 |undef=>exact .undef
 |plain hv ht =>
  refine .plain (hv.mono le) (fun f n es PE k hk=>?_);subst PE;rcases keep f with kp|kp
  ·obtain⟨k0,h0,hle,aij⟩:=kp.tok k hk
   obtain⟨h1,h2⟩:=ht f n es rfl k0 h0;refine⟨kL h1 hle,fun hke=>?_⟩;have:k0=k:=by omega
   subst this;obtain⟨a,b⟩:=aij rfl;exact(h2 hke).mono a b
  ·simp[V.cA,V.dP,V.cI]at kp
 |fE h=>exact .fE (h.mono le)
 |ea h=>exact .ea h
 |gd n a cap=>exact .gd n a cap
 |bj id off =>
  rcases keep id with kp|kp
  ·rw[←kp.κ];exact .bj id off
  ·simp[V.cA,V.dP,V.cI]at kp
 |bR id off len cap h hc =>
  rcases keep id with kp|kp
  ·rw[←kp.κ];exact .bR id off len cap h (hc.trans kp.cp.symm)
  ·simp[V.cA,V.dP,V.cI]at kp
 |rP id s h hc =>
  rcases keep id with kp|kp
  ·exact .rP id s h (kp.cp.trans hc)
  ·simp[V.cA,V.dP,V.cI]at kp
 |fT id s off len cap h =>
  rcases keep id with kp|kp
  ·rw[←kp.κ];exact .fT id s off len cap h
  ·simp[V.cA,V.dP,V.cI]at kp
 |c6 i s len cap h hl=>rw[←le.γ i h];exact .c6 i s len cap (ja h le.eW) hl
 |uD i s h hz=>exact .uD i s (ja h le.eW) hz
 |iM i s off len cap h hl=>rw[←le.γ i h];exact .iM i s off len cap (ja h le.eW) hl
 |bH i off h=>rw[←le.γ i h];exact .bH i off (ja h le.eW)
 |gK=>exact .gK
 |e8 row off b o ys hb hc hv hp hm =>
  refine .e8 row off b o ys (ja hb le.size) (fun j v hj=>le.cells _ _ _ ?_ (hc j v hj)) (fun j v hj=>(hv j v hj).mono le) hp (kL hm (le.m b hb));have:j<row.length:=by
   rcases cM j row.length with h' | h'
   ·exact h'
   ·simp[mo h']at hj
  omega
 |fn f cap xs hl hx =>
  refine .fn f cap xs hl (fun j v hj=>?_);obtain⟨i,o,h1,h2,h3⟩:=hx j v hj;exact⟨i,o,h1,ja h2 le.eW,by rw[le.γ i h2];exact h3⟩
 |gL=>exact .gL
 |map i h=>rw[←le.γ i h];exact .map i (ja h le.eW)
 |gM=>exact .gM
 |agg cs xs hl hx ih=>exact .agg cs xs hl (fun i v x hv mT=>ih i v x hv mT (fun d=>(keep d).imp id (fun hm=>WV hm (g9 hv))))
 |tuple cs xs hl hx ih=>exact .tuple cs xs hl (fun i v x hv mT=>ih i v x hv mT (fun d=>(keep d).imp id (fun hm=>WW hm (g9 hv))))
def St.cx(S:St)(g:Gh)(w:World):Cx:=⟨w.heap,g,S.aD.length,S.bl⟩
def HA(h:Array Obj)(g:Gh)(N b:Nat):aP→Prop
 |.cells cs=>g.m b=0∧∃c e,h[b]?=some (.cells c e (0,0))∧cs.length≤c.size∧∀(j:Nat) (v:V) (y:Value),cs[j]?=some v→c[j]?=some y→v.cQ=true∧(∀d,v.cA d=false)∧bf ⟨h,g,N,[]⟩ v y
 |.map es=>g.m b=0∧∃c k,h[b]?=some (.map c k)∧es.length=c.size∧∀(j:Nat) (p:V×V) (y:MapEntry),es[j]?=some p→c[j]?=some y →
   (∀d,p.1.cA d=false)∧(∀d,p.2.dP d=false)∧bf ⟨h,g,N,[]⟩ p.1 y.key∧bf ⟨h,g,N,[]⟩ p.2 y.val
def End(h:Array Obj)(g:Gh)(b j n k:Nat)(x:Value):Prop :=
 (k=0∧mr x)∨∃q cap c e,x=.slice (some ⟨q,0,none⟩) k cap∧g.ow q=.cell b j∧g.m q=k*n∧h[q]?=some (.cells c e (0,0))∧cap*n≤c.size∧0<k
def C3(h:Array Obj)(g:Gh)(b:Nat):aP→Prop
 |.cells cs=>∀(j n:Nat) (es:List (List V)) (y:Value),cs[j]?=some (.fE n es)→cellAt h b j=some y→End h g b j n es.length y
 |.map _=>True
structure tF(h:Array Obj)(g:Gh)(G:List aP):Prop where
 obj:∀i o,G[i]?=some o→o=.cells []∨g.ow (g.γ i)=.aD i∧HA h g G.length (g.γ i) o
 own:∀i o,G[i]?=some o→C3 h g (g.γ i) o
 z:∀b i,g.ow b=.aD i→g.m b=0∧i<G.length
abbrev Pk:=List (Nat×List V)
def oN(T:Pk)(h:Array Obj)(m:Nat→Nat):Prop:=∀k row,(k,row)∈T→k<h.size∧row.length≤m k∧∀(j:Nat) (v:V),row[j]?=some v→v.plain=true∧∃y,cellAt h k j=some y∧fF h m v y
theorem oN.mono{T:Pk}{X X':Cx}(le:Le X X')(h:oN T X.h X.g.m):oN T X'.h X'.g.m:=fun k row hk=>by
 obtain⟨h1,h2,h3⟩:=h k row hk;refine⟨ja h1 le.size,kL h2 (le.m k h1),fun j v hj=>?_⟩;obtain⟨h4,y,h5,h6⟩:=h3 j v hj;have:j<row.length:=by
  rcases cM j row.length with h' | h'
  ·exact h'
  ·simp[mo h']at hj
 exact⟨h4,y,le.cells _ _ _ (by omega) h5,h6.mono le⟩
structure Entry where
 w0:World
 g0:Gh
 N0:Nat
 nt:Nat
 ds:List Deferred
 T:Pk
 pk:oN T w0.heap g0.m
 z:∀b i,g0.ow b=.aD i→g0.m b=0
def Entry.own(E:Entry)(b:Nat):Prop:=∃p q,E.g0.ow b=.cell p q
structure WX(E:Entry)(g:Gh)(N:Nat)(w:World):Prop where
 os:w.os=E.w0.os
 tape:w.tape=E.w0.tape
 output:w.output=E.w0.output
 size:E.w0.heap.size≤w.heap.size
 eW:E.N0≤N
 γ:∀i,i<E.N0→g.γ i=E.g0.γ i
 γnew:∀i,E.N0≤i→i<N→E.w0.heap.size≤g.γ i
 l7:∀b,b<E.w0.heap.size→(∀i,i<E.N0→E.g0.ow b≠.aD i)→¬ E.own b→w.heap[b]?=E.w0.heap[b]?∧g.m b=E.g0.m b
 grow:∀b,b<E.w0.heap.size→E.own b→(∀o y,o<E.g0.m b→cellAt E.w0.heap b o=some y→cellAt w.heap b o=some y)∧E.g0.m b≤g.m b
 iW:∀b p q,b<E.w0.heap.size→g.ow b=.cell p q→E.own b
 lv:∀b i,g.ow b=.aD i→b<E.w0.heap.size→E.g0.ow b=.aD i∧i<E.N0
structure R(E:Entry)(g:Gh)(S:St)(a:Act)(w:World):Prop where
 env:∀s v,look s S.env=some v→∃x,a.tmps[s]?=some x∧bf (S.cx g w) v x
 aZ:∀id cs,look id S.aZ=some cs→(cs=[]∧g.cp id=0)∨g.ow (g.κ id)=.obj id∧E.w0.heap.size≤g.κ id∧g.m (g.κ id)=0 ∧
  ∃c e,w.heap[g.κ id]?=some (.cells c e (0,0))∧g.cp id≤c.size∧∀(j:Nat) (v:V),cs[j]?=some v→v.cQ=true∧∃y,c[j]?=some y∧bf (S.cx g w) v y
 bl:∀f k b,look f S.bl=some k→g.τ f=some b→g.ow b=.tok f∧(E.w0.heap.size≤b∨E.own b)∧b<w.heap.size
 aD:tF w.heap g S.aD
 defers:a.defers=E.ds
 kb:a.tmps.size=E.nt
 same:WX E g S.aD.length w
theorem R.oa{E:Entry}{g:Gh}{S:St}{a:Act}{w:World}(hR:R E g S a w):Le ⟨E.w0.heap,E.g0,E.N0,[]⟩ (S.cx g w) where
 size:=hR.same.size
 cells:=fun b o y ho hc=>by
  have hb:=Bs hc;by_cases h1:E.own b
  ·exact(hR.same.grow b hb h1).1 o y ho hc
  ·by_cases h2:∃i,E.g0.ow b=.aD i
   ·obtain⟨i,h2⟩:=h2
    have:=E.z b i h2;exact absurd ho (by show ¬ o<E.g0.m b;omega)
   ·exact(tE (hR.same.l7 b hb (fun i _ h=>h2 ⟨i,h⟩) h1).1 o).trans hc
 m:=fun b hb=>by
  by_cases h1:E.own b
  ·exact(hR.same.grow b hb h1).2
  ·by_cases h2:∃i,E.g0.ow b=.aD i
   ·obtain⟨i,h2⟩:=h2
    have:=E.z b i h2;show E.g0.m b≤_;omega
   ·exact vq (hR.same.l7 b hb (fun i _ h=>h2 ⟨i,h⟩) h1).2.symm
 eW:=hR.same.eW
 γ:=hR.same.γ
theorem R.pk{E:Entry}{g:Gh}{S:St}{a:Act}{w:World}(hR:R E g S a w):oN E.T w.heap g.m:=oN.mono (X:=⟨E.w0.heap,E.g0,E.N0,[]⟩) (X':=S.cx g w) hR.oa E.pk
end Go.Vm
