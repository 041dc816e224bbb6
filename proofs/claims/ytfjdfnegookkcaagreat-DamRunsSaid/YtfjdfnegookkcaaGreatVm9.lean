/- The value machine, 9: calls. -/
import Derived.Test.YtfjdfnegookkcaaGreatVm8
import Derived.Defers
namespace Go.Vm
set_option linter.all false
def V.comps:V → List V
 | .tuple vs => vs
 | .agg cs => cs
 | v => [v]
def rebuild (r:V) (us:List V):V :=
 match r with
 | .tuple _ => .tuple us
 | .agg _ => .agg us
 | _ => us.headD .undef
def stripAll (r:V):V:=rebuild r (r.comps.map strip)
def Parts (r:V) (x:Value) (ys:List Value):Prop :=
 match r with
 | .tuple _ => x = .tuple ys.toArray
 | .agg _ => x = .agg ys.toArray
 | _ => ys = [x]
def Fresh (X:Cx) (base:Nat) (O:Nat → Prop) (p:Nat) (v:V) (x:Value):Prop :=
 ∀ f n es,v = .slice (some f) n es → (es = [] ∧ Zed x) ∨
   ∃ b off cap c e,x = .slice (some ⟨b,off,none⟩) es.length cap ∧ (base ≤ b ∨ O b) ∧ X.g.ow b = .tok p ∧ X.g.m b = off + es.length * n ∧ X.h[b]? = some (.cells c e (0,0)) ∧ off + cap * n ≤ c.size ∧ off = 0 ∧ 0 < es.length
def ownB (g:Gh) (b:Nat):Prop:=∃ p q,g.ow b = .cell p q
def RetRel (X:Cx) (base:Nat) (O:Nat → Prop) (r:V) (x:Value):Prop :=
 ∃ ys,Parts r x ys ∧ ys.length = r.comps.length ∧ ∀ (p:Nat) (v:V) (y:Value),r.comps[p]? = some v → ys[p]? = some y → XRel X (strip v) y ∧ (∀ d,(strip v).men d = false) ∧ Fresh X base O p v y
structure Ext (w:World) (g:Gh) (N:Nat) (w':World) (g':Gh) (N':Nat):Prop where
 os:w'.os = w.os
 tape:w'.tape = w.tape
 output:w'.output = w.output
 size:w.heap.size ≤ w'.heap.size
 nle:N ≤ N'
 γ:∀ i,i < N → g'.γ i = g.γ i
 γnew:∀ i,N ≤ i → i < N' → w.heap.size ≤ g'.γ i
 old:∀ b,b < w.heap.size → (∀ i,i < N → g.γ i ≠ b) → ¬ ownB g b → w'.heap[b]? = w.heap[b]? ∧ g'.m b = g.m b
 grow:∀ b,b < w.heap.size → ownB g b → (∀ o y,o < g.m b → cellAt w.heap b o = some y → cellAt w'.heap b o = some y) ∧ g.m b ≤ g'.m b
 cold:∀ b p q,b < w.heap.size → g'.ow b = .cell p q → ownB g b
def startsDefer:Code → Bool
 | .seq (.region _ ops _) _ => match ops.toList with
   | [_,o] => (match o.op with | .defer _ => true | _ => false)
   | _ => false
 | _ => false
def defable (P:Program) (f:FuncId):Bool :=
 match P.funcs[f]? with
 | some fn => match fn.body with
   | some c => !startsDefer c
   | none => false
 | none => false
structure CallSim (P:Program) (f:FuncId) (args:List V) (G:List GObj) (r:V) (G':List GObj):Prop where
 fn:∃ fn,P.funcs[f]? = some fn ∧ fn.body.isSome = true ∧ (fn.name == "runtime.NumGoroutine") = false
 ret:∀ d,(stripAll r).men d = false
 run:∀ (w:World) (g:Gh) (xs:List Value),GlobRel w.heap g G → args.length = xs.length →
  (∀ (i:Nat) (v:V) (x:Value),args[i]? = some v → xs[i]? = some x → XRel ⟨w.heap,g,G.length,[]⟩ v x) →
  Calls P f xs.toArray w fun e w' => ∃ x g',e = .returned x ∧ Ext w g G.length w' g' G'.length ∧ GlobRel w'.heap g' G' ∧ RetRel ⟨w'.heap,g',G'.length,[]⟩ w.heap.size (ownB g) r x
 dfr:defable P f = true → ∀ (u:FrameMode) (w:World) (g:Gh) (xs:List Value),GlobRel w.heap g G → args.length = xs.length →
  (∀ (i:Nat) (v:V) (x:Value),args[i]? = some v → xs[i]? = some x → XRel ⟨w.heap,g,G.length,[]⟩ v x) →
  CallsD P f xs.toArray u w fun e u' w' => u' = u ∧ ∃ x g',e = .returned x ∧ Ext w g G.length w' g' G'.length ∧ GlobRel w'.heap g' G' ∧ RetRel ⟨w'.heap,g',G'.length,[]⟩ w.heap.size (ownB g) r x
section
variable {P:Program} {E:Entry} {g g':Gh} {S S':St} {a:Act} {w w':World}
theorem garg_rel {X:Cx} {sh:Sh} {v u:V} {y:Value} (h:garg sh v = some u) (hr:XRel X v y):XRel ⟨X.h,X.g,X.N,[]⟩ u y:=by
 unfold garg at h
 split at h
 ·split at h
  ·rename_i cs hg
   cases h
   obtain ⟨xs,e,hl,hx⟩:=rel_agg hr
   subst e
   obtain ⟨e1,e2⟩:=gels_len hg
   refine .agg _ _ (by omega) (fun i v x hv hxx => ?_)
   obtain ⟨z,s,hz,hgz⟩:=gels_get hg i v hv
   exact (gel_rel hgz (hx i z x hz hxx)).2.2.1
  ·cases h
 ·split at h
  ·exact (gel_rel h hr).2.2.1
  ·cases h
theorem gargs_rel (hR:R E g S a w):∀ {args:List (Sh × Opd)} {ops:List Operand} {vs:List V},(args.length = ops.length ∧ ∀ (i:Nat) sh x y,args[i]? = some (sh,x) → ops[i]? = some y → okOpd y x = true) → gargs S args = some vs →
  vs.length = ops.length ∧ ∀ (i:Nat) (v:V) (x:Value),vs[i]? = some v → (ops.map a.eval)[i]? = some x → XRel ⟨w.heap,g,S.glob.length,[]⟩ v x
 | [],[],vs,_,h => by simp [gargs] at h;subst h;simp
 | [],_ :: _,_,h,_ => by simp at h
 | _ :: _,[],_,h,_ => by simp at h
 |(sh,x) :: args,y :: ops,vs,hok,h => by
  simp only [gargs] at h
  split at h
  ·rename_i v hv
   split at h
   ·rename_i u us h1 h2
    cases h
    have hr:=garg_rel h1 (ev_rel hR (hok.2 0 sh x y (by simp) (by simp)) hv)
    obtain ⟨e,hx⟩:=gargs_rel hR (args:=args) (ops:=ops) ⟨by simpa using hok.1,fun i sh' x' y' hi hj => hok.2 (i + 1) sh' x' y' (by simpa using hi) (by simpa using hj)⟩ h2
    refine ⟨by simp [e],fun i z zz hz hzz => ?_⟩
    cases i with
    | zero => simp at hz hzz;subst hz;subst hzz;exact hr
    | succ i => exact hx i z zz (by simpa using hz) (by simpa using hzz)
   ·cases h
  ·cases h
theorem vrel_retok {h:Array Obj} {m:Nat → Nat} {tok:Option Nat} {n:Nat} {es:List (List V)} {x:Value} (hr:VRel h m (.slice none n es) x):VRel h m (.slice tok n es) x:=by
 cases hr with
 | nil => exact .nil _ _
 | empty _ _ a cap => exact .empty _ _ a cap
 | slice _ _ _ b off cap ys hb hcap hrow hc hv hp hm => exact .slice tok n es b off cap ys hb hcap hrow hc hv hp hm
theorem recvL_len (reg:List (Nat × Nat)):∀ (vs:List V) (i:Nat),(recvL reg i vs).1.length = vs.length
 | [],i => rfl
 | v :: vs,i => by
   have:=recvL_len reg vs (i + 1)
   simp only [recvL]
   split
   ·split <;> simp [this]
   ·simp [this]
theorem recvL_get (reg:List (Nat × Nat)):∀ (vs:List V) (i k:Nat) (u:V),(recvL reg i vs).1[k]? = some u → ∃ v,vs[k]? = some v ∧
  ((∃ t n es f,v = .slice (some t) n es ∧ look (i + k) reg = some f ∧ u = .slice (some f) n es) ∨ u = strip v)
 | [],i,k,u,h => by simp [recvL] at h
 | v :: vs,i,k,u,h => by
   simp only [recvL] at h
   split at h
   ·rename_i t n es
    split at h
    ·rename_i f hf
     cases k with
     | zero => simp at h;subst h;exact ⟨.slice (some t) n es,by simp,.inl ⟨t,n,es,f,rfl,by simpa using hf,rfl⟩⟩
     | succ k =>
       obtain ⟨z,hz,hc⟩:=recvL_get reg vs (i + 1) k u (by simpa using h)
       refine ⟨z,by simpa using hz,?_⟩
       rw [show i + (k + 1) = i + 1 + k from by omega];exact hc
    ·cases k with
     | zero => simp at h;subst h;exact ⟨.slice (some t) n es,by simp,.inr rfl⟩
     | succ k =>
       obtain ⟨z,hz,hc⟩:=recvL_get reg vs (i + 1) k u (by simpa using h)
       refine ⟨z,by simpa using hz,?_⟩
       rw [show i + (k + 1) = i + 1 + k from by omega];exact hc
   ·cases k with
    | zero => simp at h;subst h;exact ⟨_,by simp,.inr rfl⟩
    | succ k =>
      obtain ⟨z,hz,hc⟩:=recvL_get reg vs (i + 1) k u (by simpa using h)
      refine ⟨z,by simpa using hz,?_⟩
      rw [show i + (k + 1) = i + 1 + k from by omega];exact hc
theorem recvL_tok (reg:List (Nat × Nat)):∀ (vs:List V) (i:Nat) (f k:Nat),(f,k) ∈ (recvL reg i vs).2 → ∃ p t n es,vs[p]? = some (.slice (some t) n es) ∧ look (i + p) reg = some f ∧ k = es.length
 | [],i,f,k,h => by simp [recvL] at h
 | v :: vs,i,f,k,h => by
   have shift:(∃ p t n es,vs[p]? = some (.slice (some t) n es) ∧ look (i + 1 + p) reg = some f ∧ k = es.length) → ∃ p t n es,(v :: vs)[p]? = some (.slice (some t) n es) ∧ look (i + p) reg = some f ∧ k = es.length:=by
    rintro ⟨p,t,n,es,h1,h2,h3⟩
    exact ⟨p + 1,t,n,es,by simpa using h1,by rw [show i + (p + 1) = i + 1 + p from by omega];exact h2,h3⟩
   simp only [recvL] at h
   split at h
   ·rename_i t n es
    split at h
    ·rename_i f' hf
     rcases List.mem_cons.1 h with h | h
     ·cases h;exact ⟨0,t,n,es,by simp,by simpa using hf,rfl⟩
     ·exact shift (recvL_tok reg vs (i + 1) f k h)
    ·exact shift (recvL_tok reg vs (i + 1) f k h)
   ·exact shift (recvL_tok reg vs (i + 1) f k h)
theorem look_mem {α:Type} {s:Nat} {v:α}:∀ {l:List (Nat × α)},look s l = some v → (s,v) ∈ l
 | [],h => by simp [look] at h
 |(k,u) :: r,h => by
  rw [look_cons] at h
  split at h
  ·rename_i e;cases h;rw [e];exact List.mem_cons_self
  ·exact List.mem_cons_of_mem _ (look_mem h)
theorem look_append {α:Type} {s:Nat}:∀ {l r:List (Nat × α)},look s (l ++ r) = match look s l with | some v => some v | none => look s r
 | [],r => rfl
 |(k,u) :: l,r => by
  rw [List.cons_append,look_cons,look_cons]
  split
  ·rfl
  ·exact look_append
def regsOf (reg:List (Nat × Nat)):List Nat:=reg.map (·.2)
def inj (reg:List (Nat × Nat)):Bool:=(regsOf reg).Nodup && (reg.map (·.1)).Nodup
theorem nodup_eq {reg:List (Nat × Nat)} (h1:(reg.map (·.2)).Nodup) {p q f:Nat} (hp:(p,f) ∈ reg) (hq:(q,f) ∈ reg):p = q:=by
 induction reg with
 | nil => cases hp
 | cons x r ih =>
   simp only [List.map_cons,List.nodup_cons] at h1
   rcases List.mem_cons.1 hp with e1 | e1 <;> rcases List.mem_cons.1 hq with e2 | e2
   ·rw [← e1] at e2;cases e2;rfl
   ·exact absurd (List.mem_map.2 ⟨_,e2,rfl⟩) (by rw [← e1] at h1;exact h1.1)
   ·exact absurd (List.mem_map.2 ⟨_,e1,rfl⟩) (by rw [← e2] at h1;exact h1.1)
   ·exact ih h1.2 e1 e2
theorem inj_eq {reg:List (Nat × Nat)} (h:inj reg = true) {p q f:Nat} (hp:look p reg = some f) (hq:look q reg = some f):p = q:=by
 simp only [inj,Bool.and_eq_true,decide_eq_true_eq] at h
 exact nodup_eq h.1 (look_mem hp) (look_mem hq)
theorem recv_eq (reg:List (Nat × Nat)) (r:V):recv reg r = (rebuild r (recvL reg 0 r.comps).1,(recvL reg 0 r.comps).2):=by
 have h:∀ v:V,∃ u ts,recvL reg 0 [v] = ([u],ts):=fun v => by
  simp only [recvL]
  split
  ·split <;> exact ⟨_,_,rfl⟩
  ·exact ⟨_,_,rfl⟩
 cases r <;> first
  | rfl
  |(rename_i x y z;obtain ⟨u,ts,e⟩:=h (.slice x y z);simp only [recv,V.comps,rebuild,e];rfl)
  |(rename_i x y z;obtain ⟨u,ts,e⟩:=h (.lref x y z);simp only [recv,V.comps,rebuild,e];rfl)
  |(simp only [recv,V.comps,rebuild,recvL];rfl)
theorem R.called (hR:R E g S a w) {G':List GObj} (hx:Ext w g S.glob.length w' g' G'.length) (hG:GlobRel w'.heap g' G') {r:V} {x:Value} (hr:RetRel ⟨w'.heap,g',G'.length,[]⟩ w.heap.size (ownB g) r x)
  {reg:List (Nat × Nat)} (hinj:inj reg = true) (hreg:∀ p f,look p reg = some f → S.noMen f) :
  ∃ gn,R E gn { S with glob:=G',toks:=(recv reg r).2 ++ S.toks } a w' ∧ XRel (({ S with glob:=G',toks:=(recv reg r).2 ++ S.toks }:St).cx gn w') (recv reg r).1 x ∧
    gn.m = g'.m ∧ ∀ b p,w.heap.size ≤ b → g'.ow b = .tok p → look p reg = none → gn.ow b = .none:=by
 classical
 obtain ⟨ys,hparts,hlen,hys⟩:=hr
 rw [recv_eq]
 simp only
 let T':=(recvL reg 0 r.comps).2 ++ S.toks
 have hTmem:∀ f k,look f (recvL reg 0 r.comps).2 = some k → ∃ p t n es y,r.comps[p]? = some (.slice (some t) n es) ∧ look p reg = some f ∧ k = es.length ∧ ys[p]? = some y:=fun f k hk => by
  obtain ⟨p,t,n,es,h1,h2,h3⟩:=recvL_tok reg _ 0 f k (look_mem hk)
  have hp:=lt_of_get? h1
  exact ⟨p,t,n,es,ys[p]'(by omega),h1,by simpa using h2,h3,List.getElem?_eq_getElem (by omega)⟩
 let Q:Nat → Nat × Value → Prop:=fun f q => look q.1 reg = some f ∧ ys[q.1]? = some q.2
 let τn:Nat → Option Nat:=fun f => if h:∃ q,Q f q then blk h.choose.2 else g.τ f
 have hτ:∀ f p y,look p reg = some f → ys[p]? = some y → τn f = blk y:=fun f p y hp hy => by
  have hq:∃ q,Q f q:=⟨(p,y),hp,hy⟩
  show (if h:∃ q,Q f q then blk h.choose.2 else g.τ f) = _
  rw [dif_pos hq]
  obtain ⟨h1,h2⟩:=hq.choose_spec
  have e:=inj_eq hinj h1 hp
  rw [e,hy] at h2
  rw [← Option.some.inj h2]
 have hτ0:∀ f,(∀ p,look p reg ≠ some f) → τn f = g.τ f:=fun f hp => by
  show (if h:∃ q,Q f q then blk h.choose.2 else g.τ f) = _
  rw [dif_neg (fun h => by obtain ⟨q,h1,_⟩:=h;exact hp _ h1)]
 let own:Nat → Ow:=fun b => if b < w.heap.size ∧ ¬ ownB g b then g.ow b else match g'.ow b with
  | .tok p => (match look p reg with | some f => .tok f | none => .none)
  | .glob i => .glob i
  | .cell p q => .cell p q
  | _ => .none
 have ownlt:∀ b,b < w.heap.size → ¬ ownB g b → own b = g.ow b:=fun b h k => if_pos ⟨h,k⟩
 have ownge:∀ b,w.heap.size ≤ b ∨ ownB g b → own b = match g'.ow b with
  | .tok p => (match look p reg with | some f => .tok f | none => .none)
  | .glob i => .glob i
  | .cell p q => .cell p q
  | _ => .none:=fun b h => if_neg (fun k => h.elim (fun h => by omega) k.2)
 have nown:∀ {b o},g.ow b = o → (∀ p q,o ≠ .cell p q) → ¬ ownB g b:=fun h1 h2 ⟨p,q,h3⟩ => h2 p q (h1.symm.trans h3)
 let gn:Gh:={ m:=g'.m,κ:=g.κ,cp:=g.cp,τ:=τn,γ:=g'.γ,ow:=own }
 have hglob:∀ i,i < S.glob.length → g.ow (g.γ i) = .glob i ∧ g.m (g.γ i) = 0:=fun i hi => by
  obtain ⟨h1,h2⟩:=hR.glob i _ (List.getElem?_eq_getElem hi)
  refine ⟨h1,?_⟩
  cases ho:S.glob[i] with
  | cells cs => rw [ho] at h2;exact h2.1
  | map es => rw [ho] at h2;exact h2.1
 have hold:∀ b,b < w.heap.size → (∀ i,g.ow b ≠ .glob i) → ¬ ownB g b → w'.heap[b]? = w.heap[b]? ∧ g'.m b = g.m b:=fun b hb ho hn =>
  hx.old b hb (fun i hi e => ho i (by rw [← e];exact (hglob i hi).1)) hn
 have le:Le (S.cx g w) ⟨w'.heap,gn,G'.length,T'⟩ :=
  {size:=hx.size
   cells:=fun b o y ho hy => by
    have hb:=cellAt_lt hy
    show cellAt w'.heap b o = some y
    by_cases hw:ownB g b
    ·exact (hx.grow b hb hw).1 o y ho hy
    rw [cellAt_same (hx.old b hb (fun i hi e => ?_) hw).1]
    ·exact hy
    ·have ho:o < g.m b:=ho
     rw [← e,(hglob i hi).2] at ho
     omega
   m:=fun b hb => by
    show g.m b ≤ g'.m b
    by_cases hw:ownB g b
    ·exact (hx.grow b hb hw).2
    by_cases h:∃ i,i < S.glob.length ∧ g.γ i = b
    ·obtain ⟨i,hi,e⟩:=h
     rw [← e,(hglob i hi).2];omega
    ·rw [(hx.old b hb (fun i hi e => h ⟨i,hi,e⟩) hw).2];exact Nat.le_refl _
   nle:=hx.nle
   γ:=hx.γ }
 have hT0:∀ f,(∀ p,look p reg ≠ some f) → look f T' = look f S.toks:=fun f hf => by
  show look f ((recvL reg 0 r.comps).2 ++ S.toks) = _
  rw [look_append]
  cases h:look f (recvL reg 0 r.comps).2 with
  | none => rfl
  | some k =>
    obtain ⟨p,_,_,_,_,_,h2,_,_⟩:=hTmem f k h
    exact absurd h2 (hf p)
 have hT1:∀ f k p,look p reg = some f → look f T' = some k → look f (recvL reg 0 r.comps).2 = some k:=fun f k p hp hk => by
  have hk:look f ((recvL reg 0 r.comps).2 ++ S.toks) = some k:=hk
  rw [look_append] at hk
  cases h:look f (recvL reg 0 r.comps).2 with
  | none => rw [h] at hk;simp only at hk;rw [(hreg p f hp).tok] at hk;cases hk
  | some k' => rw [h] at hk;exact hk
 have keeps:∀ d,Keeps (S.cx g w) ⟨w'.heap,gn,G'.length,T'⟩ d ∨ S.noMen d:=fun d => by
  by_cases hd:∃ p,look p reg = some d
  ·obtain ⟨p,hp⟩:=hd
   exact .inr (hreg p d hp)
  ·have hd:∀ p,look p reg ≠ some d:=fun p e => hd ⟨p,e⟩
   refine .inl ⟨rfl,rfl,fun k' hk' => ?_⟩
   have hk:look d S.toks = some k':=by rw [← hT0 d hd];exact hk'
   refine ⟨k',hk,Nat.le_refl _,fun _ => ⟨hτ0 d hd,fun b hb => ?_⟩⟩
   obtain ⟨h1,h2,h3⟩:=hR.toks d k' b hk hb
   obtain ⟨h4,h5⟩:=hold b h3 (fun i e => by rw [h1] at e;cases e) (nown h1 (fun _ _ e => by cases e))
   exact ⟨h5,fun c e hc => ⟨c,h4.trans hc,rfl⟩⟩
 have leG:∀ T,Le ⟨w'.heap,g',G'.length,[]⟩ ⟨w'.heap,gn,G'.length,T⟩:=fun T => ⟨Nat.le_refl _,fun _ _ _ _ h => h,fun _ _ => Nat.le_refl _,Nat.le_refl _,fun _ _ => rfl⟩
 refine ⟨gn,⟨fun s v hs => ?_,fun id cs ho => ?_,fun f k b hf hb => ?_,⟨fun i o ho => ?_,fun i o ho => ?_⟩,hR.defers,hR.tsz,?_⟩,?_,rfl,fun b p hb ho hl => by show own b = _;rw [ownge b (.inl hb),ho];simp only [hl]⟩
 ·obtain ⟨x,h1,h2⟩:=hR.env s v hs
  exact ⟨x,h1,h2.mono le fun d => (keeps d).imp (fun z => z) fun h => h.env s v hs⟩
 ·obtain ⟨h1,h2,h3,c,e,h4,hcp,h5⟩:=hR.objs id cs ho
  have hlt:g.κ id < w.heap.size:=by
   rcases Nat.lt_or_ge (g.κ id) w.heap.size with h | h
   ·exact h
   ·simp [Array.getElem?_eq_none h] at h4
  obtain ⟨h6,h7⟩:=hold _ hlt (fun i e => by rw [h1] at e;cases e) (nown h1 (fun _ _ e => by cases e))
  refine ⟨(ownlt _ hlt (nown h1 (fun _ _ e => by cases e))).trans h1,h2,h7.trans h3,c,e,h6.trans h4,hcp,fun j v hj => ?_⟩
  obtain ⟨h8,y,h9,h10⟩:=h5 j v hj
  exact ⟨h8,y,h9,h10.mono le fun d => (keeps d).imp (fun z => z) fun h => men_of_men0 (h.objs id cs ho v (List.mem_of_getElem? hj))⟩
 ·by_cases hd:∃ p,look p reg = some f
  ·obtain ⟨p0,hp0⟩:=hd
   obtain ⟨p,t,n,es,y,h1,h2,h3,h4⟩:=hTmem f k (hT1 f k p0 hp0 hf)
   obtain ⟨_,_,hfr⟩:=hys p _ y h1 h4
   have hb:τn f = some b:=hb
   rw [hτ f p y h2 h4] at hb
   rcases hfr t n es rfl with ⟨_,e⟩ | ⟨b',off,cap,c,e,h5,h6,h7,h8,h9,h10⟩
   ·rw [blk_zed e] at hb;cases hb
   ·rw [h5,blk_pos h10.2.2,Option.some.injEq] at hb
    subst hb
    refine ⟨?_,?_,?_⟩
    ·show own b' = _
     have h7:g'.ow b' = .tok p:=h7
     rw [ownge b' h6,h7]
     simp only [h2]
    ·rcases h6 with h6 | ⟨p',q',h6⟩
     ·exact .inl (Nat.le_trans hR.same.size h6)
     ·rcases Nat.lt_or_ge b' E.w0.heap.size with h | h
      ·exact .inr (hR.same.cold b' p' q' h h6)
      ·exact .inl h
    ·rcases Nat.lt_or_ge b' w'.heap.size with h | h
     ·exact h
     ·simp [Array.getElem?_eq_none h] at h9
  ·have hd:∀ p,look p reg ≠ some f:=fun p e => hd ⟨p,e⟩
   have hf':look f S.toks = some k:=by rw [← hT0 f hd];exact hf
   have hb':g.τ f = some b:=by rw [← hτ0 f hd];exact hb
   obtain ⟨h1,h2,h3⟩:=hR.toks f k b hf' hb'
   exact ⟨(ownlt b h3 (nown h1 (fun _ _ e => by cases e))).trans h1,h2,Nat.lt_of_lt_of_le h3 hx.size⟩
 ·obtain ⟨h1,h2⟩:=hG i o ho
  have hi:=lt_of_get? ho
  refine ⟨?_,?_⟩
  ·show own (g'.γ i) = _
   by_cases hin:i < S.glob.length
   ·rw [hx.γ i hin,ownlt _ (glob_lt hR (List.getElem?_eq_getElem hin)) (nown (hglob i hin).1 (fun _ _ e => by cases e))]
    exact (hglob i hin).1
   ·rw [ownge _ (.inl (hx.γnew i (by omega) hi)),h1]
  ·cases o with
   | map es =>
     obtain ⟨h3,c,e,h4,h5,h6⟩:=h2
     refine ⟨h3,c,e,h4,h5,fun j v y hj hy => ?_⟩
     obtain ⟨h7,h8,h9,h10⟩:=h6 j v y hj hy
     exact ⟨h7,h8,h9.mono (leG []) fun d => .inr (h7 d),h10.mono (leG []) fun d => .inr (men_of_men1 (h8 d))⟩
   | cells cs =>
     obtain ⟨h3,c,e,h4,h5,h6⟩:=h2
     refine ⟨h3,c,e,h4,h5,fun j v y hj hy => ?_⟩
     obtain ⟨h7,h8,h9⟩:=h6 j v y hj hy
     exact ⟨h7,h8,h9.mono (leG []) fun d => .inr (h8 d)⟩
 ·have h3:=hG.own i o ho
  cases o with
  | map es => trivial
  | cells cs =>
    intro j n es y hj hy
    rcases h3 j n es y hj hy with h | ⟨q,cap,c',e',q1,q2,q3,q4,q5,q6⟩
    ·exact .inl h
    ·refine .inr ⟨q,cap,c',e',q1,?_,q3,q4,q5,q6⟩
     show own q = _
     rw [ownge q,q2]
     rcases Nat.lt_or_ge q w.heap.size with h | h
     ·exact .inr (hx.cold q _ _ h q2)
     ·exact .inl h
 ·exact {
   os:=hx.os.trans hR.same.os
   tape:=hx.tape.trans hR.same.tape
   output:=hx.output.trans hR.same.output
   size:=Nat.le_trans hR.same.size hx.size
   nle:=Nat.le_trans hR.same.nle hx.nle
   γ:=fun i hi => (hx.γ i (Nat.lt_of_lt_of_le hi hR.same.nle)).trans (hR.same.γ i hi)
   γnew:=fun i h1 h2 => by
    by_cases h:i < S.glob.length
    ·show _ ≤ g'.γ i
     rw [hx.γ i h];exact hR.same.γnew i h1 h
    ·exact Nat.le_trans hR.same.size (hx.γnew i (by omega) h2)
   old:=fun b hb hno hnw => by
    obtain ⟨h1,h2⟩:=hR.same.old b hb hno hnw
    obtain ⟨h3,h4⟩:=hx.old b (Nat.lt_of_lt_of_le hb hR.same.size) (fun i hi e => by
     by_cases h:i < E.N0
     ·exact hno i h (by rw [← hR.same.γ i h];exact e)
     ·have:=hR.same.γnew i (by omega) hi
      omega) (fun ⟨p,q,h⟩ => hnw (hR.same.cold b p q hb h))
    exact ⟨h3.trans h1,h4.trans h2⟩
   grow:=fun b hb hw => by
    obtain ⟨h1,h2⟩:=hR.same.grow b hb hw
    have hlt:=Nat.lt_of_lt_of_le hb hR.same.size
    exact ⟨fun o y ho hy => le.cells b o y (Nat.lt_of_lt_of_le ho h2) (h1 o y ho hy),Nat.le_trans h2 (le.m b hlt)⟩
   cold:=fun b p q hb ho => by
    have ho:own b = .cell p q:=ho
    have hlt:=Nat.lt_of_lt_of_le hb hR.same.size
    by_cases hw:ownB g b
    ·obtain ⟨p',q',hw⟩:=hw
     exact hR.same.cold b p' q' hb hw
    ·rw [ownlt b hlt hw] at ho
     exact absurd ⟨p,q,ho⟩ hw }
 ·have hcomp:∀ (k:Nat) (u:V) (y:Value),(recvL reg 0 r.comps).1[k]? = some u → ys[k]? = some y → XRel ⟨w'.heap,gn,G'.length,T'⟩ u y:=fun k u y hu hy => by
   obtain ⟨v,hv,hc⟩:=recvL_get reg _ 0 k u hu
   obtain ⟨q1,q2,q3⟩:=hys k v y hv hy
   rcases hc with ⟨t,n,es,f,rfl,h2,rfl⟩ | rfl
   ·rw [Nat.zero_add] at h2
    have hvr:VRel w'.heap g'.m (.slice none n es) y:=by
     cases q1 with | plain h _ => exact h
    refine .plain (vrel_retok hvr) (fun f' n' es' he k' hk' => ?_)
    cases he
    obtain ⟨p,t',n',es',y',h3,h4,h5,h6⟩:=hTmem f k' (hT1 f k' k h2 hk')
    have:p = k:=inj_eq hinj h4 h2
    subst this
    rw [hv] at h3
    cases h3
    rw [hy] at h6
    cases h6
    subst h5
    refine ⟨Nat.le_refl _,fun _ => ?_⟩
    rcases q3 t n es rfl with ⟨e1,e2⟩ | ⟨b,off,cap,c,e,h7,h8,h9,h10,h11,h12⟩
    ·exact .inl ⟨by rw [e1];rfl,e2⟩
    ·exact .inr ⟨b,off,cap,c,e,by show τn f = _;rw [hτ f p y h2 hy,h7];exact blk_pos h12.2.2,h7,h10,h11,h12⟩
   ·exact q1.mono (leG _) fun d => .inr (q2 d)
  have hul:=recvL_len reg r.comps 0
  show XRel ⟨w'.heap,gn,G'.length,T'⟩ _ _
  have single:r.comps = [r] → ys = [x] → (∀ us,rebuild r us = us.headD .undef) → XRel ⟨w'.heap,gn,G'.length,T'⟩ (rebuild r (recvL reg 0 r.comps).1) x:=fun e1 e2 e3 => by
   rw [e3]
   have hl1:(recvL reg 0 r.comps).1.length = 1:=by rw [hul,e1];rfl
   match hrl:(recvL reg 0 r.comps).1,hl1 with
   | [u],_ => exact hcomp 0 u x (by rw [hrl];rfl) (by rw [e2];rfl)
  cases r with
  | tuple vs =>
    have hparts:x = .tuple ys.toArray:=hparts
    subst hparts
    exact .tuple _ _ (by rw [hul];simpa using hlen.symm) (fun i v y hv hy => hcomp i v y hv (by simpa using hy))
  | agg vs =>
    have hparts:x = .agg ys.toArray:=hparts
    subst hparts
    exact .agg _ _ (by rw [hul];simpa using hlen.symm) (fun i v y hv hy => hcomp i v y hv (by simpa using hy))
  | _ => exact single rfl hparts (fun _ => rfl)
theorem do_call {o:Oper} {f:Operand} {args:Array Operand} {ts:Array TypeId} {fo:Opd} {as:List (Sh × Opd)} {reg:List (Nat × Nat)} {C:CallF} (ho:o.op = .call ⟨.value f,args,ts⟩) (hf:okOpd f fo = true)
  (has:as.length = args.toList.length ∧ ∀ (i:Nat) sh x y,as[i]? = some (sh,x) → args.toList[i]? = some y → okOpd y x = true)
  (hC:∀ f args G r G',C f args G = some (r,G') → CallSim P f args G r G')
  (hinj:inj reg = true) (hreg:∀ p f,look p reg = some f → S.noMen f)
  (hR:R E g S a w) (hd:∀ d,o.dst = some d → d < E.nt) (hrun:VO.run C o.dst S (.call false fo as reg) = some S'):Does P E o S S' a w:=by
 simp only [VO.run] at hrun
 split at hrun
 ·rename_i fid cap vs hfv hvs
  split at hrun
  ·rename_i r G' hcall
   cases hrun
   have hsim:=hC _ _ _ _ _ hcall
   obtain ⟨fn,hfn,hbody,hname⟩:=hsim.fn
   obtain ⟨xs,e1,hcl,hcx⟩:∃ xs:Array Value,a.eval f = .func (.func fid) #[] xs ∧ cap.length = xs.size ∧ ∀ (j:Nat) (v:V),cap[j]? = some v → ∃ i o,v = .gptr i o ∧ i < S.glob.length ∧ xs[j]? = some (.pointer (some ⟨g.γ i,o,none⟩)):=by
    have hr:=ev_rel hR hf hfv
    generalize a.eval f = y at hr
    cases hr with
    | plain h _ => cases h
    | fn _ _ xs hl hx => exact ⟨xs,rfl,hl,hx⟩
   obtain ⟨hl,hx⟩:=gargs_rel hR has hvs
   have hexec:(execOp a.eval o).run P w = .ok (.enter fid (args.map a.eval ++ xs)) w:=by
    simp [execOp,ho,resolve,e1,Deferred.ofValue,invoke,callFunc,hfn]
    simp at hname
    cases hb:fn.body with
    | none => simp [hb] at hbody
    | some c => simp [hname]
   intro K Q hK
   unfold Oper.wp
   rw [hexec,Oper.upon_enter]
   have hrun:=hsim.run w g ((args.toList.map a.eval) ++ xs.toList) hR.glob (by simp;simp at hl;omega) (fun i v x hv hxx => by
    rw [List.getElem?_append] at hv hxx
    have hvl:vs.length = (args.toList.map a.eval).length:=by rw [List.length_map];exact hl
    split at hv
    ·rename_i h
     rw [if_pos (by omega)] at hxx
     exact hx i v x hv hxx
    ·rename_i h
     rw [if_neg (by omega)] at hxx
     obtain ⟨k,o',e2,hk,h3⟩:=hcx _ v hv
     rw [hvl] at h3
     subst e2
     have:x = .pointer (some ⟨g.γ k,o',none⟩):=by
      have h4:xs.toList[i - (args.toList.map a.eval).length]? = some (.pointer (some ⟨g.γ k,o',none⟩)):=by simpa using h3
      rw [h4] at hxx
      exact (Option.some.inj hxx).symm
     rw [this]
     exact .gptr k o' hk)
   have hargs:((args.toList.map a.eval) ++ xs.toList).toArray = args.map a.eval ++ xs:=by
    apply Array.ext'
    simp
   rw [hargs] at hrun
   refine hrun.mono fun e w' ⟨x,g',he,hext,hG,hret⟩ => ?_
   subst he
   obtain ⟨gn,r1,r2,_⟩:=hR.called hext hG hret hinj hreg
   exact hK gn _ _ (r1.put hd r2)
  ·cases hrun
 ·cases hrun
theorem parg_rel {X:Cx} {sh:Sh} {v u:V} {y:Value} (h:parg sh v = some u) (hr:XRel X v y) (N:Nat):XRel ⟨X.h,X.g,N,[]⟩ u y:=by
 unfold parg at h
 split at h
 ·split at h
  ·rename_i cs hg
   cases h
   obtain ⟨xs,e,hl,hx⟩:=rel_agg hr
   subst e
   obtain ⟨e1,e2⟩:=els_len hg
   refine .agg _ _ (by omega) (fun i v x hv hxx => ?_)
   obtain ⟨z,s,hz,hgz⟩:=els_get hg i v hv
   obtain ⟨p,q⟩:=el_rel hgz (hx i z x hz hxx)
   exact .plain q (plain_tok p)
  ·cases h
 ·split at h
  ·obtain ⟨p,q⟩:=el_rel h hr
   exact .plain q (plain_tok p)
  ·cases h
theorem pargs_rel (hR:R E g S a w) (N:Nat):∀ {args:List (Sh × Opd)} {ops:List Operand} {vs:List V},(args.length = ops.length ∧ ∀ (i:Nat) sh x y,args[i]? = some (sh,x) → ops[i]? = some y → okOpd y x = true) → pargs S args = some vs →
  vs.length = ops.length ∧ ∀ (i:Nat) (v:V) (x:Value),vs[i]? = some v → (ops.map a.eval)[i]? = some x → XRel ⟨w.heap,g,N,[]⟩ v x
 | [],[],vs,_,h => by simp [pargs] at h;subst h;simp
 | [],_ :: _,_,h,_ => by simp at h
 | _ :: _,[],_,h,_ => by simp at h
 |(sh,x) :: args,y :: ops,vs,hok,h => by
  simp only [pargs] at h
  split at h
  ·rename_i v hv
   split at h
   ·rename_i u us h1 h2
    cases h
    have hr:=parg_rel h1 (ev_rel hR (hok.2 0 sh x y (by simp) (by simp)) hv) N
    obtain ⟨e,hx⟩:=pargs_rel hR N (args:=args) (ops:=ops) ⟨by simpa using hok.1,fun i sh' x' y' hi hj => hok.2 (i + 1) sh' x' y' (by simpa using hi) (by simpa using hj)⟩ h2
    refine ⟨by simp [e],fun i z zz hz hzz => ?_⟩
    cases i with
    | zero => simp at hz hzz;subst hz;subst hzz;exact hr
    | succ i => exact hx i z zz (by simpa using hz) (by simpa using hzz)
   ·cases h
  ·cases h
theorem lone1_rel {X:Cx} {v:V} {x:Value} (h:v.lone1 = true) (hr:XRel X (strip0 v) x):VRel X.h X.g.m (strip0 v) x:=by
 cases v <;> simp_all [V.lone1,V.plain,strip0]
 all_goals (cases hr with | plain h _ => exact h)
theorem strip_lone {X X':Cx} (hh:X'.h = X.h) (hm:X'.g.m = X.g.m) {v:V} {x:Value} (h:v.lone2 = true) (hr:XRel X (strip v) x):XRel X' (strip v) x:=by
 have key:(∃ cs,v = .agg cs) ∨ (v.lone2 = v.lone1 ∧ strip v = strip0 v):=by
  cases v <;> first | (left;exact ⟨_,rfl⟩) | (right;exact ⟨rfl,rfl⟩)
 rcases key with ⟨cs,rfl⟩ | ⟨k1,k2⟩
 ·simp only [V.lone2,List.all_eq_true] at h
  obtain ⟨xs,e,hl,hx⟩:=rel_agg hr
  subst e
  refine .agg _ _ hl (fun i u y hu hy => ?_)
  have hu':=hu
  rw [List.getElem?_map] at hu
  cases hc:cs[i]? with
  | none => simp [hc] at hu
  | some z =>
    simp [hc] at hu
    subst hu
    have hz:=h z (List.mem_of_getElem? hc)
    have:=lone1_rel hz (hx i _ y hu' hy)
    rw [← hh,← hm] at this
    exact .plain this (fun f n es e => by cases z <;> simp [strip0] at e)
 ·rw [k1] at h
  rw [k2] at hr ⊢
  have:=lone1_rel h hr
  rw [← hh,← hm] at this
  exact .plain this (fun f n es e => by cases v <;> simp [strip0] at e)
def noCell (g:Gh):Gh:={ g with ow:=fun b => match g.ow b with | .cell _ _ => .none | q => q }
theorem noCell_own (g:Gh) (b:Nat):¬ ownB (noCell g) b:=fun ⟨p,q,h⟩ => by
 have h:(match g.ow b with | .cell _ _ => Ow.none | q => q) = .cell p q:=h
 split at h
 ·cases h
 ·rename_i h2;exact h2 _ _ h
theorem lone_comps {r:V} (h:r.lone = true):∀ v ∈ r.comps,v.lone2 = true:=fun v hv => by
 cases r with
 | tuple vs => simp only [V.lone,List.all_eq_true] at h;exact h v hv
 | agg cs =>
   simp only [V.lone,V.lone2,List.all_eq_true] at h
   have:=h v hv
   cases v <;> simp_all [V.lone1,V.lone2,V.plain]
 | _ =>
   simp only [V.comps,List.mem_singleton] at hv
   subst hv
   exact h
theorem do_callAlone {o:Oper} {f:Operand} {args:Array Operand} {ts:Array TypeId} {fo:Opd} {as:List (Sh × Opd)} {reg:List (Nat × Nat)} {C:CallF} (ho:o.op = .call ⟨.value f,args,ts⟩) (hf:okOpd f fo = true)
  (has:as.length = args.toList.length ∧ ∀ (i:Nat) sh x y,as[i]? = some (sh,x) → args.toList[i]? = some y → okOpd y x = true)
  (hC:∀ f args G r G',C f args G = some (r,G') → CallSim P f args G r G')
  (hinj:inj reg = true) (hreg:∀ p f,look p reg = some f → S.noMen f)
  (hR:R E g S a w) (hd:∀ d,o.dst = some d → d < E.nt) (hrun:VO.run C o.dst S (.call true fo as reg) = some S'):Does P E o S S' a w:=by
 simp only [VO.run] at hrun
 split at hrun
 ·rename_i fid vs hfv hvs
  split at hrun
  ·rename_i r G' hcall
   cases hlone:r.lone with
   | false => simp [hlone] at hrun
   | true =>
     simp only [hlone,cond_true] at hrun
     cases hrun
     have hsim:=hC _ _ _ _ _ hcall
     obtain ⟨fn,hfn,hbody,hname⟩:=hsim.fn
     have e1:a.eval f = .func (.func fid) #[] #[]:=by
      have hr:=ev_rel hR hf hfv
      generalize a.eval f = y at hr
      cases hr with
      | plain h _ => cases h
      | fn _ _ xs hl hx =>
        have:xs = #[]:=by
         apply Array.eq_empty_of_size_eq_zero
         simpa using hl.symm
        rw [this]
     obtain ⟨hl,hx⟩:=pargs_rel hR 0 has hvs
     have hexec:(execOp a.eval o).run P w = .ok (.enter fid (args.map a.eval)) w:=by
      simp [execOp,ho,resolve,e1,Deferred.ofValue,invoke,callFunc,hfn]
      simp at hname
      cases hb:fn.body with
      | none => simp [hb] at hbody
      | some c => simp [hname]
     intro K Q hK
     unfold Oper.wp
     rw [hexec,Oper.upon_enter]
     have hg1:∀ b,¬ ownB (noCell g) b:=noCell_own g
     have hrun:=hsim.run w (noCell g) (args.toList.map a.eval) ⟨fun i o h => by simp at h,fun i o h => by simp at h⟩ (by simp;simpa using hl) (fun i v x hv hxx => XRel.mono (X:=⟨w.heap,g,0,[]⟩) (X':=⟨w.heap,noCell g,0,[]⟩) ⟨Nat.le_refl _,fun _ _ _ _ h => h,fun _ _ => Nat.le_refl _,Nat.le_refl _,fun _ _ => rfl⟩ (hx i v x hv hxx) (fun d => .inl ⟨rfl,rfl,fun k hk => by simp [look] at hk⟩))
     have hargs:(args.toList.map a.eval).toArray = args.map a.eval:=by
      apply Array.ext'
      simp
     rw [hargs] at hrun
     refine hrun.mono fun e w' ⟨x,g',he,hext,hG,hret⟩ => ?_
     subst he
     let g2:Gh:={ g' with γ:=g.γ,ow:=fun b => if b < w.heap.size then g.ow b else match g'.ow b with | .glob _ => .none | q => q }
     have hold:∀ b,b < w.heap.size → w'.heap[b]? = w.heap[b]? ∧ g'.m b = g.m b:=fun b hb => hext.old b hb (fun i hi => absurd hi (by simp)) (hg1 b)
     have hext2:Ext w g S.glob.length w' g2 S.glob.length:=⟨hext.os,hext.tape,hext.output,hext.size,Nat.le_refl _,fun _ _ => rfl,fun i a b => absurd a (by omega),fun b hb _ _ => hold b hb,
      fun b hb _ => ⟨fun o y _ hy => by rw [cellAt_same (hold b hb).1];exact hy,Nat.le_of_eq (hold b hb).2.symm⟩,fun b p q hb h => ⟨p,q,by (have h:(if b < w.heap.size then _ else _) = Ow.cell p q:=h);rw [if_pos hb] at h;exact h⟩⟩
     have hG2o:∀ i o,S.glob[i]? = some o → Owns w'.heap g2 (g2.γ i) o:=fun i o hi => by
      have h3:=hR.glob.own i o hi
      cases o with
      | map es => trivial
      | cells cs =>
        intro j n es y hj hy
        have hy:cellAt w'.heap (g.γ i) j = some y:=hy
        rw [cellAt_same (hold _ (glob_lt hR hi)).1] at hy
        rcases h3 j n es y hj hy with h | ⟨q,cap,c',e',q1,q2,q3,q4,q5,q6⟩
        ·exact .inl h
        ·have hql:q < w.heap.size:=by
          rcases Nat.lt_or_ge q w.heap.size with h | h
          ·exact h
          ·simp [Array.getElem?_eq_none h] at q4
         exact .inr ⟨q,cap,c',e',q1,by show (if q < w.heap.size then _ else _) = _;rw [if_pos hql];exact q2,(hold q hql).2.trans q3,(hold q hql).1.trans q4,q5,q6⟩
     have hG2:GlobRel w'.heap g2 S.glob:=⟨fun i o hi => by
      obtain ⟨h1,h2⟩:=hR.glob i o hi
      cases o with
      | map es =>
        obtain ⟨h3,c,e,h4,h5,h6⟩:=h2
        have hlt:g.γ i < w.heap.size:=by
         rcases Nat.lt_or_ge (g.γ i) w.heap.size with h | h
         ·exact h
         ·simp [Array.getElem?_eq_none h] at h4
        obtain ⟨q1,q2⟩:=hold _ hlt
        have le:Le ⟨w.heap,g,S.glob.length,[]⟩ ⟨w'.heap,g2,S.glob.length,[]⟩ :=
         ⟨hext.size,fun b o y ho hy => by
          have hb:=cellAt_lt hy
          show cellAt w'.heap b o = some y
          rw [cellAt_same (hold b hb).1];exact hy,fun b hb => Nat.le_of_eq (hold b hb).2.symm,Nat.le_refl _,fun _ _ => rfl⟩
        refine ⟨by show (if g.γ i < w.heap.size then _ else _) = _;rw [if_pos hlt];exact h1,q2.trans h3,c,e,q1.trans h4,h5,fun j v y hj hy => ?_⟩
        obtain ⟨h7,h8,h9,h10⟩:=h6 j v y hj hy
        exact ⟨h7,h8,h9.mono le fun d => .inr (h7 d),h10.mono le fun d => .inr (men_of_men1 (h8 d))⟩
      | cells cs =>
        obtain ⟨h3,c,e,h4,h5,h6⟩:=h2
        have hlt:g.γ i < w.heap.size:=by
         rcases Nat.lt_or_ge (g.γ i) w.heap.size with h | h
         ·exact h
         ·simp [Array.getElem?_eq_none h] at h4
        obtain ⟨q1,q2⟩:=hold _ hlt
        have le:Le ⟨w.heap,g,S.glob.length,[]⟩ ⟨w'.heap,g2,S.glob.length,[]⟩ :=
         ⟨hext.size,fun b o y ho hy => by
          have hb:=cellAt_lt hy
          show cellAt w'.heap b o = some y
          rw [cellAt_same (hold b hb).1];exact hy,fun b hb => Nat.le_of_eq (hold b hb).2.symm,Nat.le_refl _,fun _ _ => rfl⟩
        refine ⟨by show (if g.γ i < w.heap.size then _ else _) = _;rw [if_pos hlt];exact h1,q2.trans h3,c,e,q1.trans h4,h5,fun j v y hj hy => ?_⟩
        obtain ⟨h7,h8,h9⟩:=h6 j v y hj hy
        exact ⟨h7,h8,h9.mono le fun d => .inr (h8 d)⟩,hG2o⟩
     have hret2:RetRel ⟨w'.heap,g2,S.glob.length,[]⟩ w.heap.size (ownB g) r x:=by
      obtain ⟨ys,p1,p2,p3⟩:=hret
      refine ⟨ys,p1,p2,fun p v y hv hy => ?_⟩
      obtain ⟨q1,q2,q3⟩:=p3 p v y hv hy
      refine ⟨strip_lone (X:=⟨w'.heap,g',G'.length,[]⟩) (X':=⟨w'.heap,g2,S.glob.length,[]⟩) rfl rfl (lone_comps hlone v (List.mem_of_getElem? hv)) q1,q2,fun f n es e => ?_⟩
      rcases q3 f n es e with h | ⟨b,off,cap,c,e,h1,h2,h3,h4,h5,h6⟩
      ·exact .inl h
      ·have h2:w.heap.size ≤ b:=h2.resolve_right (hg1 b)
       refine .inr ⟨b,off,cap,c,e,h1,.inl h2,?_,h4,h5,h6⟩
       show (if b < w.heap.size then _ else _) = _
       rw [if_neg (by omega)]
       have h3:g'.ow b = .tok p:=h3
       rw [h3]
     obtain ⟨gn,r1,r2,_⟩:=hR.called hext2 hG2 hret2 hinj hreg
     exact hK gn _ _ (r1.put hd r2)
  ·cases hrun
 ·cases hrun
end
theorem recvL_nofam:∀ (i:Nat) (vs:List V),(recvL [] i vs).2 = []
 | _,[] => rfl
 | i,v :: vs => by
   have ih:=recvL_nofam (i + 1) vs
   simp only [recvL]
   split
   ·simp only [look];exact ih
   ·exact ih
theorem recv_nil (r:V):(recv [] r).2 = []:=by rw [recv_eq];exact recvL_nofam _ _
theorem rcall_run {C:CallF} {d:Option Nat} {S S':St} {f:Opd} {args:List (Sh × Opd)} (h:VO.run C d S (.rcall f args) = some S'):VO.run C d S (.call false f args []) = some S':=by
 simp only [VO.run] at h ⊢
 split at h
 ·split at h
  ·rename_i r G hc
   simp only [rd] at h
   split at h
   ·rename_i e
    subst e
    cases h
    simp only [hc,recv_nil,List.nil_append]
   ·cases h
  ·cases h
 ·cases h
end Go.Vm
