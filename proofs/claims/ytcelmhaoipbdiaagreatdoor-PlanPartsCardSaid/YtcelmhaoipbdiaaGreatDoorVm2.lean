/- The value machine, 2: how its values and its states stand to the model's. -/
import Derived.Orders
import Derived.Laws.Append
import Derived.Laws.Rows
import Derived.Test.YtcelmhaoipbdiaaGreatDoorVm1
namespace Go.Vm
set_option linter.all false
def cellAt(h:Array Obj)(b o:Nat):Option Value :=
 match h[b]? with
 |some (.cells c _ _)=>c[o]?
 |_=>none
theorem cell?_eq(w:World)(b o:Nat):w.cell? ⟨b,o,none⟩=cellAt w.heap b o:=by
 simp[World.cell?,cellAt];rfl
theorem zK{h:Array Obj}{b o:Nat}{y:Value}(hc:cellAt h b o=some y):b<h.size:=by
 unfold cellAt at hc;rcases cF b h.size with h' | h'
 ·exact h'
 ·simp[lU h']at hc
theorem kr{h:Array Obj}{b o:Nat}{c:Array Value}{e:TypeId}{fz:Nat×Nat}(hb:h[b]?=some (.cells c e fz)):cellAt h b o=c[o]?:=by
 simp[cellAt,hb]
theorem rU{h h':Array Obj}{b:Nat}(e:h'[b]?=h[b]?)(o:Nat):cellAt h' b o=cellAt h b o:=by
 simp[cellAt,e]
inductive fa (h:Array Obj) (m:Nat→Nat):V→Value→Prop
 |int (k n):fa h m (.int k n) (.int k n)
 |bool (b):fa h m (.bool b) (.bool b)
 |str (s:ByteArray):fa h m (.str s.data.toList) (.string s)
 |b9:fa h m .b9 (.slice none 0 0)
 |nil (tok n):fa h m (.slice tok n []) (.slice none 0 0)
 |empty (tok n) (a:Addr) (cap:Nat):fa h m (.slice tok n []) (.slice (some a) 0 cap)
 |slice (tok:Option Nat) (n:Nat) (es:List (List V)) (b off cap:Nat) (ys:Nat→Nat→Value) (hb:b<h.size) (en:es.length≤cap)
   (iw:∀(i:Nat) (row:List V),es[i]?=some row→row.length=n)
   (hc:∀(i:Nat) (row:List V) (j:Nat) (v:V),es[i]?=some row→row[j]?=some v→cellAt h b (off+i*n+j)=some (ys i j))
   (hv:∀(i:Nat) (row:List V) (j:Nat) (v:V),es[i]?=some row→row[j]?=some v→fa h m v (ys i j))
   (hp:∀(i:Nat) (row:List V) (j:Nat) (v:V),es[i]?=some row→row[j]?=some v→v.plain=true)
   (hm:off+es.length*n≤m b):fa h m (.slice tok n es) (.slice (some ⟨b,off,none⟩) es.length cap)
inductive Ow where
 |none
 |obj (id:Nat)
 |tok (f:Nat)
 |ay (i:Nat)
 |cell (b j:Nat)
 deriving DecidableEq
structure Gh where
 m:Nat→Nat
 κ:Nat→Nat
 cp:Nat→Nat
 τ:Nat→Option Nat
 γ:Nat→Nat
 ow:Nat→Ow
structure Cx where
 h:Array Obj
 g:Gh
 N:Nat
 T:List (Nat×Nat)
def kX(x:Value):Prop:=x=.slice none 0 0∨∃a,x=.slice (some a) 0 0
def xy(X:Cx)(f n k:Nat)(x:Value):Prop :=
 (k=0∧kX x)∨∃b off cap c e,X.g.τ f=some b∧x=.slice (some ⟨b,off,none⟩) k cap∧X.g.m b=off+k*n ∧
  X.h[b]?=some (.cells c e (0,0))∧off+cap*n≤c.size∧off=0∧0<k
def SV(X:Cx)(v:V)(x:Value):Prop :=
 ∀f n es,v=.slice (some f) n es→∀k,look f X.T=some k→es.length≤k∧(k=es.length→xy X f n k x)
inductive aZ (X:Cx):V→Value→Prop
 |undef:aZ X .undef Go.undef
 |plain {v x} (h:fa X.h X.g.m v x) (ht:SV X v x):aZ X v x
 |e9 {n es x} (h:fa X.h X.g.m (.slice none n es) x):aZ X (.e9 n es) x
 |dX {n x} (h:kX x):aZ X (.dX n) x
 |fx (n a cap):aZ X (.fx n) (.slice (some a) 0 cap)
 |bG (id off):aZ X (.bG id off) (.pointer (some ⟨X.g.κ id,off,none⟩))
 |bP (id s len cap) (h:len≤cap) (hc:cap*s=X.g.cp id):aZ X (.bP id s len) (.slice (some ⟨X.g.κ id,0,none⟩) len cap)
 |p8 (id s) {x} (h:kX x) (hc:X.g.cp id=0):aZ X (.bP id s 0) x
 |fm (id s off len cap) (h:len≤cap):aZ X (.fm id s off len) (.slice (some ⟨X.g.κ id,off*s,none⟩) len cap)
 |da (i s len cap) (h:i<X.N) (hl:len≤cap):aZ X (.da i s len) (.slice (some ⟨X.g.γ i,0,none⟩) len cap)
 |s8 (i s) {x} (h:i<X.N) (hz:kX x):aZ X (.da i s 0) x
 |gX (i s off len cap) (h:i<X.N) (hl:len≤cap):aZ X (.gX i s off len) (.slice (some ⟨X.g.γ i,off*s,none⟩) len cap)
 |bI (i off) (h:i<X.N):aZ X (.bI i off) (.pointer (some ⟨X.g.γ i,off,none⟩))
 |fQ:aZ X .fQ (.pointer none)
 |eI (row:List V) (off b o:Nat) (ys:Nat→Value) (hb:b<X.h.size) (hc:∀(j:Nat) (v:V),row[j]?=some v→cellAt X.h b (o+j)=some (ys j))
   (hv:∀(j:Nat) (v:V),row[j]?=some v→fa X.h X.g.m v (ys j)) (hp:∀(j:Nat) (v:V),row[j]?=some v→v.plain=true) (hm:o+row.length≤X.g.m b):aZ X (.eI row off) (.pointer (some ⟨b,o+off,none⟩))
 |fn (f:FuncId) (cap:List V) (xs:Array Value) (hl:cap.length=xs.size) (hx:∀(j:Nat) (v:V),cap[j]?=some v→∃i o,v=.bI i o∧i<X.N∧xs[j]?=some (.pointer (some ⟨X.g.γ i,o,none⟩))) :
   aZ X (.fn f cap) (.func (.func (jb f)) #[] xs)
 |fR:aZ X .fR .nilFunc
 |map (i) (h:i<X.N):aZ X (.map i) (.map (some (X.g.γ i)))
 |fS:aZ X .fS (.map none)
 |agg (cs:List V) (xs:Array Value) (hl:cs.length=xs.size) (hx:∀(i:Nat) (v:V) (x:Value),cs[i]?=some v→xs[i]?=some x→aZ X v x):aZ X (.agg cs) (.agg xs)
 |tuple (cs:List V) (xs:Array Value) (hl:cs.length=xs.size) (hx:∀(i:Nat) (v:V) (x:Value),cs[i]?=some v→xs[i]?=some x→aZ X v x):aZ X (.tuple cs) (.tuple xs)
structure Le(X X':Cx):Prop where
 size:X.h.size≤X'.h.size
 cells:∀b o y,o<X.g.m b→cellAt X.h b o=some y→cellAt X'.h b o=some y
 m:∀b,b<X.h.size→X.g.m b≤X'.g.m b
 eD:X.N≤X'.N
 γ:∀i,i<X.N→X'.g.γ i=X.g.γ i
theorem fa.mono{X X':Cx}(le:Le X X'){v:V}{x:Value}(h:fa X.h X.g.m v x):fa X'.h X'.g.m v x:=by
 induction h with
 |int k n=>exact .int k n
 |bool b=>exact .bool b
 |str s=>exact .str s
 |b9=>exact .b9
 |nil t n=>exact .nil t n
 |empty t n a cap=>exact .empty t n a cap
 |slice tok n es b off cap ys hb en iw hc hv hp hm ih =>
  have xz:=le.m b hb;refine .slice tok n es b off cap ys (iq hb le.size) en iw (fun i row j v hr hj=>?_) ih hp (by omega)
  refine le.cells _ _ _ ?_ (hc i row j v hr hj);have h1:i<es.length:=by
   rcases cF i es.length with h' | h'
   ·exact h'
   ·simp[kF h']at hr
  have h2:j<row.length:=by
   rcases cF j row.length with h' | h'
   ·exact h'
   ·simp[kF h']at hj
  have h3:=iw i row hr;have h4:i*n+n≤es.length*n:=by
   have:=rI n h1;rw[nU]at this;exact this
  omega
structure iM(X X':Cx)(d:Nat):Prop where
 κ:X'.g.κ d=X.g.κ d
 cp:X'.g.cp d=X.g.cp d
 tok:∀k',look d X'.T=some k'→∃k,look d X.T=some k∧k≤k'∧(k'=k→X'.g.τ d=X.g.τ d∧∀b,X.g.τ d=some b →
  X'.g.m b=X.g.m b∧∀c e,X.h[b]?=some (.cells c e (0,0))→∃c',X'.h[b]?=some (.cells c' e (0,0))∧c'.size=c.size)
theorem iM.refl(X:Cx)(d:Nat):iM X X d:=⟨rfl,rfl,fun k h=>⟨k,h,bR _,fun _=>⟨rfl,fun _ _=>⟨rfl,fun c _ h=>⟨c,h,rfl⟩⟩⟩⟩⟩
theorem s9{d:Nat}{v:V}(h:v.cA d=false):v.ch d=false:=by
 cases v<;>simp_all[V.ch,V.dv,V.cA]
theorem SW{d:Nat}{cs:List V}(h:(V.agg cs).ch d=false){v:V}(hv:v∈cs):v.ch d=false:=by
 simp only[V.ch,V.dv,mS]at h;exact s9 (by simpa using h v hv)
theorem vl{d:Nat}{v:V}(h:v.dv d=false):v.ch d=false:=by
 cases v with
 |tuple vs=>simp[V.dv,V.cA]at h
 |_=>simpa [V.ch] using h
theorem SX{d:Nat}{cs:List V}(h:(V.tuple cs).ch d=false){v:V}(hv:v∈cs):v.ch d=false:=by
 simp only[V.ch,mS]at h;exact vl (by simpa using h v hv)
theorem xy.mono{X X':Cx}{f n k:Nat}{x:Value}(hτ:X'.g.τ f=X.g.τ f)
  (hb:∀b,X.g.τ f=some b→X'.g.m b=X.g.m b∧∀c e,X.h[b]?=some (.cells c e (0,0))→∃c',X'.h[b]?=some (.cells c' e (0,0))∧c'.size=c.size)
  (h:xy X f n k x):xy X' f n k x:=by
 rcases h with h | ⟨b,off,cap,c,e,h1,h2,h3,h4,h5⟩
 ·exact .inl h
 ·obtain⟨hm,hc⟩:=hb b h1
  obtain⟨c',h6,h7⟩:=hc c e h4;exact .inr ⟨b,off,cap,c',e,by rw[hτ,h1],h2,by omega,h6,by omega,h5.2⟩
theorem aZ.mono{X X':Cx}(le:Le X X'){v:V}{x:Value}(h:aZ X v x)(keep:∀d,iM X X' d∨v.ch d=false):aZ X' v x:=by
 induction h with
 |undef=>exact .undef
 |plain hv ht =>
  refine .plain (hv.mono le) (fun f n es Mz k hk=>?_);subst Mz;rcases keep f with kp|kp
  ·obtain⟨k0,h0,hle,ac7⟩:=kp.tok k hk
   obtain⟨h1,h2⟩:=ht f n es rfl k0 h0;refine⟨jT h1 hle,fun hke=>?_⟩;have:k0=k:=by omega
   subst this;obtain⟨a,b⟩:=ac7 rfl;exact(h2 hke).mono a b
  ·simp[V.ch,V.dv,V.cA]at kp
 |e9 h=>exact .e9 (h.mono le)
 |dX h=>exact .dX h
 |fx n a cap=>exact .fx n a cap
 |bG id off =>
  rcases keep id with kp|kp
  ·rw[←kp.κ];exact .bG id off
  ·simp[V.ch,V.dv,V.cA]at kp
 |bP id off len cap h hc =>
  rcases keep id with kp|kp
  ·rw[←kp.κ];exact .bP id off len cap h (hc.trans kp.cp.symm)
  ·simp[V.ch,V.dv,V.cA]at kp
 |p8 id s h hc =>
  rcases keep id with kp|kp
  ·exact .p8 id s h (kp.cp.trans hc)
  ·simp[V.ch,V.dv,V.cA]at kp
 |fm id s off len cap h =>
  rcases keep id with kp|kp
  ·rw[←kp.κ];exact .fm id s off len cap h
  ·simp[V.ch,V.dv,V.cA]at kp
 |da i s len cap h hl=>rw[←le.γ i h];exact .da i s len cap (iq h le.eD) hl
 |s8 i s h hz=>exact .s8 i s (iq h le.eD) hz
 |gX i s off len cap h hl=>rw[←le.γ i h];exact .gX i s off len cap (iq h le.eD) hl
 |bI i off h=>rw[←le.γ i h];exact .bI i off (iq h le.eD)
 |fQ=>exact .fQ
 |eI row off b o ys hb hc hv hp hm =>
  refine .eI row off b o ys (iq hb le.size) (fun j v hj=>le.cells _ _ _ ?_ (hc j v hj)) (fun j v hj=>(hv j v hj).mono le) hp (jT hm (le.m b hb));have:j<row.length:=by
   rcases cF j row.length with h' | h'
   ·exact h'
   ·simp[kF h']at hj
  omega
 |fn f cap xs hl hx =>
  refine .fn f cap xs hl (fun j v hj=>?_);obtain⟨i,o,h1,h2,h3⟩:=hx j v hj;exact⟨i,o,h1,iq h2 le.eD,by rw[le.γ i h2];exact h3⟩
 |fR=>exact .fR
 |map i h=>rw[←le.γ i h];exact .map i (iq h le.eD)
 |fS=>exact .fS
 |agg cs xs hl hx ih=>exact .agg cs xs hl (fun i v x hv lJ=>ih i v x hv lJ (fun d=>(keep d).imp id (fun hm=>SW hm (gH hv))))
 |tuple cs xs hl hx ih=>exact .tuple cs xs hl (fun i v x hv lJ=>ih i v x hv lJ (fun d=>(keep d).imp id (fun hm=>SX hm (gH hv))))
def St.cx(S:St)(g:Gh)(w:World):Cx:=⟨w.heap,g,S.ay.length,S.bf⟩
def Fc(h:Array Obj)(g:Gh)(N b:Nat):aT→Prop
 |.cells cs=>g.m b=0∧∃c e,h[b]?=some (.cells c e (0,0))∧cs.length≤c.size∧∀(j:Nat) (v:V) (y:Value),cs[j]?=some v→c[j]?=some y→v.cI=true∧(∀d,v.ch d=false)∧aZ ⟨h,g,N,[]⟩ v y
 |.map es=>g.m b=0∧∃c k,h[b]?=some (.map c k)∧es.length=c.size∧∀(j:Nat) (p:V×V) (y:MapEntry),es[j]?=some p→c[j]?=some y →
   (∀d,p.1.ch d=false)∧(∀d,p.2.dv d=false)∧aZ ⟨h,g,N,[]⟩ p.1 y.key∧aZ ⟨h,g,N,[]⟩ p.2 y.val
def End(h:Array Obj)(g:Gh)(b j n k:Nat)(x:Value):Prop :=
 (k=0∧kX x)∨∃q cap c e,x=.slice (some ⟨q,0,none⟩) k cap∧g.ow q=.cell b j∧g.m q=k*n∧h[q]?=some (.cells c e (0,0))∧cap*n≤c.size∧0<k
def A8(h:Array Obj)(g:Gh)(b:Nat):aT→Prop
 |.cells cs=>∀(j n:Nat) (es:List (List V)) (y:Value),cs[j]?=some (.e9 n es)→cellAt h b j=some y→End h g b j n es.length y
 |.map _=>True
structure rW(h:Array Obj)(g:Gh)(G:List aT):Prop where
 obj:∀i o,G[i]?=some o→o=.cells []∨g.ow (g.γ i)=.ay i∧Fc h g G.length (g.γ i) o
 own:∀i o,G[i]?=some o→A8 h g (g.γ i) o
 z:∀b i,g.ow b=.ay i→g.m b=0∧i<G.length
abbrev Pk:=List (Nat×List V)
def nW(T:Pk)(h:Array Obj)(m:Nat→Nat):Prop:=∀k row,(k,row)∈T→k<h.size∧row.length≤m k∧∀(j:Nat) (v:V),row[j]?=some v→v.plain=true∧∃y,cellAt h k j=some y∧fa h m v y
theorem nW.mono{T:Pk}{X X':Cx}(le:Le X X')(h:nW T X.h X.g.m):nW T X'.h X'.g.m:=fun k row hk=>by
 obtain⟨h1,h2,h3⟩:=h k row hk;refine⟨iq h1 le.size,jT h2 (le.m k h1),fun j v hj=>?_⟩;obtain⟨h4,y,h5,h6⟩:=h3 j v hj;have:j<row.length:=by
  rcases cF j row.length with h' | h'
  ·exact h'
  ·simp[kF h']at hj
 exact⟨h4,y,le.cells _ _ _ (by omega) h5,h6.mono le⟩
structure Entry where
 w0:World
 g0:Gh
 N0:Nat
 nt:Nat
 ds:List Deferred
 T:Pk
 pk:nW T w0.heap g0.m
 z:∀b i,g0.ow b=.ay i→g0.m b=0
def Entry.own(E:Entry)(b:Nat):Prop:=∃p q,E.g0.ow b=.cell p q
structure SY(E:Entry)(g:Gh)(N:Nat)(w:World):Prop where
 os:w.os=E.w0.os
 tape:w.tape=E.w0.tape
 output:w.output=E.w0.output
 size:E.w0.heap.size≤w.heap.size
 eD:E.N0≤N
 γ:∀i,i<E.N0→g.γ i=E.g0.γ i
 γnew:∀i,E.N0≤i→i<N→E.w0.heap.size≤g.γ i
 kI:∀b,b<E.w0.heap.size→(∀i,i<E.N0→E.g0.ow b≠.ay i)→¬ E.own b→w.heap[b]?=E.w0.heap[b]?∧g.m b=E.g0.m b
 grow:∀b,b<E.w0.heap.size→E.own b→(∀o y,o<E.g0.m b→cellAt E.w0.heap b o=some y→cellAt w.heap b o=some y)∧E.g0.m b≤g.m b
 hY:∀b p q,b<E.w0.heap.size→g.ow b=.cell p q→E.own b
 lv:∀b i,g.ow b=.ay i→b<E.w0.heap.size→E.g0.ow b=.ay i∧i<E.N0
structure R(E:Entry)(g:Gh)(S:St)(a:Act)(w:World):Prop where
 env:∀s v,look s S.env=some v→∃x,a.tmps[s]?=some x∧aZ (S.cx g w) v x
 aW:∀id cs,look id S.aW=some cs→(cs=[]∧g.cp id=0)∨g.ow (g.κ id)=.obj id∧E.w0.heap.size≤g.κ id∧g.m (g.κ id)=0 ∧
  ∃c e,w.heap[g.κ id]?=some (.cells c e (0,0))∧g.cp id≤c.size∧∀(j:Nat) (v:V),cs[j]?=some v→v.cI=true∧∃y,c[j]?=some y∧aZ (S.cx g w) v y
 bf:∀f k b,look f S.bf=some k→g.τ f=some b→g.ow b=.tok f∧(E.w0.heap.size≤b∨E.own b)∧b<w.heap.size
 ay:rW w.heap g S.ay
 defers:a.defers=E.ds
 jg:a.tmps.size=E.nt
 same:SY E g S.ay.length w
theorem R.mX{E:Entry}{g:Gh}{S:St}{a:Act}{w:World}(hR:R E g S a w):Le ⟨E.w0.heap,E.g0,E.N0,[]⟩ (S.cx g w) where
 size:=hR.same.size
 cells:=fun b o y ho hc=>by
  have hb:=zK hc;by_cases h1:E.own b
  ·exact(hR.same.grow b hb h1).1 o y ho hc
  ·by_cases h2:∃i,E.g0.ow b=.ay i
   ·obtain⟨i,h2⟩:=h2
    have:=E.z b i h2;exact absurd ho (by show ¬ o<E.g0.m b;omega)
   ·exact(rU (hR.same.kI b hb (fun i _ h=>h2 ⟨i,h⟩) h1).1 o).trans hc
 m:=fun b hb=>by
  by_cases h1:E.own b
  ·exact(hR.same.grow b hb h1).2
  ·by_cases h2:∃i,E.g0.ow b=.ay i
   ·obtain⟨i,h2⟩:=h2
    have:=E.z b i h2;show E.g0.m b≤_;omega
   ·exact tO (hR.same.kI b hb (fun i _ h=>h2 ⟨i,h⟩) h1).2.symm
 eD:=hR.same.eD
 γ:=hR.same.γ
theorem R.pk{E:Entry}{g:Gh}{S:St}{a:Act}{w:World}(hR:R E g S a w):nW E.T w.heap g.m:=nW.mono (X:=⟨E.w0.heap,E.g0,E.N0,[]⟩) (X':=S.cx g w) hR.mX E.pk
end Go.Vm
