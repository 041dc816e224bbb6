/- The value machine, 17: results, and whole calls. -/
import Derived.Test.YtfjdfnegookkcaaGreatVmG
namespace Go.Vm
set_option linter.all false
section
variable {P:Program} {E:Entry} {g g':Gh} {S S':St} {a:Act} {w w':World} {C:CallF}
def RetOne (X:Cx) (used:List Nat) (u:V) (y:Value) (used':List Nat):Prop :=
 XRel ⟨X.h,X.g,X.N,[]⟩ (strip u) y ∧
 ((∀ t n es,u ≠ .slice (some t) n es) ∧ (∀ f ∈ used,f ∈ used') ∨ (∃ n,u = .slice (some 0) n [] ∧ Zed y ∧ used' = used) ∨
   ∃ f n es k,u = .slice (some 0) n es ∧ f ∉ used ∧ used' = f :: used ∧ Tail X f n es.length y ∧ look f X.T = some k)
inductive RetList (X:Cx):List Nat → List V → List Value → List Nat → Prop
 | nil (used):RetList X used [] [] used
 | cons {used used1 used2 u us y ys} (h:RetOne X used u y used1) (hs:RetList X used1 us ys used2):RetList X used (u :: us) (y :: ys) used2
theorem gel_strip {sh:Option Nat} {v u:V} (h:gel sh v = some u):strip u = u ∧ u.isCell = true ∧ ∀ d,u.men0 d = false:=by
 have hel:∀ {v u},el sh v = some u → strip u = u ∧ u.isCell = true ∧ ∀ d,u.men0 d = false:=fun {v u} h => by
  unfold el at h
  split at h <;> first
   |(cases h;exact ⟨rfl,rfl,fun _ => rfl⟩)
   |(split at h <;> first | (cases h;done) | (cases h;exact ⟨rfl,rfl,fun _ => rfl⟩))
   | cases h
 unfold gel at h
 split at h <;> first
  |(cases h;exact ⟨rfl,rfl,fun _ => rfl⟩)
  | exact hel h
theorem gel_notok {sh:Option Nat} {v u:V} (h:gel sh v = some u):∀ t n es,u ≠ .slice (some t) n es:=fun t n es e => by
 have:=(gel_strip h).2.2 t
 rw [e] at this
 simp [V.men0] at this
theorem ret1_clean {sh:Option Nat} {used used':List Nat} {v u:V} (h:ret1 S sh used v = some (u,used')):u.isCell = true ∧ ∀ d,(strip u).men0 d = false:=by
 unfold ret1 at h
 split at h
 ·split at h
  ·cases h;exact ⟨rfl,fun _ => rfl⟩
  ·cases h
 ·cases h;exact ⟨rfl,fun _ => rfl⟩
 ·rename_i f n es
  split at h
  ·rename_i k _
   cases hc:(k == es.length && !used.contains f) with
   | true => simp only [hc,cond_true] at h;cases h;exact ⟨rfl,fun _ => rfl⟩
   | false => simp only [hc,cond_false] at h;cases h;exact ⟨rfl,fun _ => rfl⟩
  ·cases h;exact ⟨rfl,fun _ => rfl⟩
 ·cases h;exact ⟨rfl,fun _ => rfl⟩
 ·split at h
  ·rename_i hg
   cases h
   obtain ⟨h1,h2,h3⟩:=gel_strip hg
   exact ⟨h2,fun d => by rw [h1];exact h3 d⟩
  ·cases h
theorem ret1_spec {X:Cx} (hX:X.T = S.toks) {sh:Option Nat} {used used':List Nat} {v u:V} {y:Value} (h:ret1 S sh used v = some (u,used')) (hr:XRel X v y):RetOne X used u y used':=by
 unfold ret1 at h
 split at h
 ·split at h
  ·rename_i n
   cases h
   have:=rel_nils hr
   subst this
   exact ⟨.plain (.nil _ _) (fun _ _ _ e => by cases e),.inr (.inl ⟨n,rfl,.inl rfl,rfl⟩)⟩
  ·cases h
 ·rename_i n
  cases h
  have hz:=rel_zed hr
  exact ⟨.plain (by rcases hz with rfl | ⟨a,rfl⟩ <;> first | exact .nil _ _ | exact .empty _ _ a 0) (fun _ _ _ e => by cases e),.inr (.inl ⟨n,rfl,hz,rfl⟩)⟩
 ·rename_i f n es
  have hv:VRel X.h X.g.m (.slice (some f) n es) y:=by cases hr with | plain h _ => exact h
  have hx:XRel ⟨X.h,X.g,X.N,[]⟩ (.slice none n es) y:=.plain (by cases hv with
   | nil => exact .nil _ _
   | empty _ _ a cap => exact .empty _ _ a cap
   | slice _ _ _ b off cap zs hb hcap hrow hc hv hp hm => exact .slice none n es b off cap zs hb hcap hrow hc hv hp hm) (fun _ _ _ e => by cases e)
  split at h
  ·rename_i k hk
   cases hc:(k == es.length && !used.contains f) with
   | true =>
     simp only [hc,cond_true] at h
     cases h
     simp only [Bool.and_eq_true,beq_iff_eq,Bool.not_eq_true',List.contains_eq_mem,decide_eq_false_iff_not] at hc
     obtain ⟨rfl,hnu⟩:=hc
     have htail:Tail X f n es.length y:=by
      cases hr with | plain _ ht => exact (ht f n es rfl _ (by rw [hX];exact hk)).2 rfl
     exact ⟨hx,.inr (.inr ⟨f,n,es,_,rfl,hnu,rfl,htail,by rw [hX];exact hk⟩)⟩
   | false =>
     simp only [hc,cond_false] at h
     cases h
     exact ⟨hx,.inl ⟨(fun _ _ _ e => by cases e),fun _ h => h⟩⟩
  ·cases h
   exact ⟨hx,.inl ⟨(fun _ _ _ e => by cases e),fun _ h => h⟩⟩
 ·rename_i n es
  cases h
  have hv:VRel X.h X.g.m (.slice none n es) y:=by cases hr with | plain h _ => exact h
  exact ⟨.plain hv (fun _ _ _ e => by cases e),.inl ⟨(fun _ _ _ e => by cases e),fun _ h => h⟩⟩
 ·split at h
  ·rename_i hg
   cases h
   obtain ⟨h1,h2,h3⟩:=gel_strip hg
   refine ⟨by rw [h1];exact (gel_rel hg hr).2.2.1,.inl ⟨gel_notok hg,fun _ h => h⟩⟩
  ·cases h
theorem rets_spec {X:Cx} (hX:X.T = S.toks):∀ {sh:Sh} {used used':List Nat} {vs us:List V} {ys:List Value},rets S sh used vs = some (us,used') → vs.length = ys.length →
  (∀ (i:Nat) (v:V) (y:Value),vs[i]? = some v → ys[i]? = some y → XRel X v y) → RetList X used us ys used'
 | [],used,used',[],us,ys,h,hl,_ => by
   simp only [rets,Option.some.injEq,Prod.mk.injEq] at h
   obtain ⟨rfl,rfl⟩:=h
   cases ys with
   | nil => exact .nil _
   | cons _ _ => simp at hl
 | [],_,_,_ :: _,_,_,h,_,_ => by simp [rets] at h
 | _ :: _,_,_,[],_,_,h,_,_ => by simp [rets] at h
 | s :: sh,used,used',v :: vs,us,ys,h,hl,hr => by
   simp only [rets] at h
   split at h
   ·rename_i u used1 h1
    split at h
    ·rename_i us' used2 h2
     cases h
     cases ys with
     | nil => simp at hl
     | cons y ys =>
       exact .cons (ret1_spec hX h1 (hr 0 v y (by simp) (by simp))) (rets_spec hX h2 (by simpa using hl) fun i v' y' hv hy => hr (i + 1) v' y' (by simpa using hv) (by simpa using hy))
    ·cases h
   ·cases h
theorem rets_clean:∀ {sh:Sh} {used used':List Nat} {vs us:List V},rets S sh used vs = some (us,used') → ∀ u ∈ us,u.isCell = true ∧ ∀ d,(strip u).men0 d = false
 | [],used,used',[],us,h => by
   simp only [rets,Option.some.injEq,Prod.mk.injEq] at h
   obtain ⟨rfl,rfl⟩:=h
   simp
 | [],_,_,_ :: _,_,h => by simp [rets] at h
 | _ :: _,_,_,[],_,h => by simp [rets] at h
 | s :: sh,used,used',v :: vs,us,h => by
   simp only [rets] at h
   split at h
   ·rename_i u used1 h1
    split at h
    ·rename_i us' used2 h2
     cases h
     intro z hz
     rcases List.mem_cons.1 hz with e | e
     ·subst e;exact ret1_clean h1
     ·exact rets_clean h2 z e
    ·cases h
   ·cases h
theorem RetList.sub {X:Cx} {used used':List Nat} {us:List V} {ys:List Value} (h:RetList X used us ys used'):∀ f ∈ used,f ∈ used':=by
 induction h with
 | nil used => exact fun _ h => h
 | cons h hs ih =>
   intro f hf
   apply ih
   rcases h.2 with ⟨_,h⟩ | ⟨_,_,_,e⟩ | ⟨_,_,_,_,_,_,e,_⟩
   ·exact h f hf
   ·rw [e];exact hf
   ·rw [e];exact List.mem_cons_of_mem _ hf
theorem RetList.fams {X:Cx} {used used':List Nat} {us:List V} {ys:List Value} (h:RetList X used us ys used'):us.length = ys.length ∧ ∃ fam:Nat → Option Nat,
  (∀ (p:Nat) u y,us[p]? = some u → ys[p]? = some y → XRel ⟨X.h,X.g,X.N,[]⟩ (strip u) y ∧ ((∀ t n es,u ≠ .slice (some t) n es) ∨ (∃ n,u = .slice (some 0) n [] ∧ Zed y) ∨
   ∃ f n es k,u = .slice (some 0) n es ∧ fam p = some f ∧ Tail X f n es.length y ∧ look f X.T = some k)) ∧
  (∀ p q f,fam p = some f → fam q = some f → p = q) ∧ (∀ p f,fam p = some f → f ∉ used):=by
 induction h with
 | nil used => exact ⟨rfl,fun _ => none,by simp,by simp,by simp⟩
 | @cons used used1 used2 u us y ys h hs ih =>
   obtain ⟨hl,fam,h1,h2,h3⟩:=ih
   obtain ⟨hx,hk⟩:=h
   have hsub:∀ f ∈ used,f ∈ used1:=by
    rcases hk with ⟨_,h⟩ | ⟨_,_,_,e⟩ | ⟨_,_,_,_,_,_,e,_⟩
    ·exact h
    ·rw [e];exact fun _ h => h
    ·rw [e];exact fun _ h => List.mem_cons_of_mem _ h
   refine ⟨by simp [hl],?_⟩
   rcases hk with ⟨hno,_⟩ | ⟨n,e1,e2,e3⟩ | ⟨f0,n,es,k,e1,e2,e3,e4,e5⟩
   ·refine ⟨fun p => match p with | 0 => none | p + 1 => fam p,fun p u' y' hu hy => ?_,fun p q f hp hq => ?_,fun p f hp => ?_⟩
    ·cases p with
     | zero => simp at hu hy;subst hu;subst hy;exact ⟨hx,.inl hno⟩
     | succ p => exact h1 p u' y' (by simpa using hu) (by simpa using hy)
    ·cases p <;> cases q <;> simp at hp hq
     rw [h2 _ _ f hp hq]
    ·cases p with
     | zero => simp at hp
     | succ p => exact fun hf => h3 p f hp (hsub f hf)
   ·refine ⟨fun p => match p with | 0 => none | p + 1 => fam p,fun p u' y' hu hy => ?_,fun p q f hp hq => ?_,fun p f hp => ?_⟩
    ·cases p with
     | zero => simp at hu hy;subst hu;subst hy;exact ⟨hx,.inr (.inl ⟨n,e1,e2⟩)⟩
     | succ p => exact h1 p u' y' (by simpa using hu) (by simpa using hy)
    ·cases p <;> cases q <;> simp at hp hq
     rw [h2 _ _ f hp hq]
    ·cases p with
     | zero => simp at hp
     | succ p => exact fun hf => h3 p f hp (hsub f hf)
   ·refine ⟨fun p => match p with | 0 => some f0 | p + 1 => fam p,fun p u' y' hu hy => ?_,fun p q f hp hq => ?_,fun p f hp => ?_⟩
    ·cases p with
     | zero => simp at hu hy;subst hu;subst hy;exact ⟨hx,.inr (.inr ⟨f0,n,es,k,e1,rfl,e4,e5⟩)⟩
     | succ p =>
       obtain ⟨q1,q2⟩:=h1 p u' y' (by simpa using hu) (by simpa using hy)
       exact ⟨q1,q2⟩
    ·cases p with
     | zero =>
       cases q with
       | zero => rfl
       | succ q =>
         simp at hp hq
         subst hp
         exact absurd (by rw [e3];exact List.mem_cons_self) (h3 q f0 hq)
     | succ p =>
       cases q with
       | zero =>
         simp at hp hq
         subst hq
         exact absurd (by rw [e3];exact List.mem_cons_self) (h3 p f0 hp)
       | succ q => simp at hp hq;rw [h2 _ _ f hp hq]
    ·cases p with
     | zero => simp at hp;subst hp;exact e2
     | succ p => exact fun hf => h3 p f hp (hsub f hf)
def okRes (P:Program):List ResultVar → List RVar → Bool
 | [],[] => true
 | .tmp t :: rs,.t s _ :: vs => t == s && okRes P rs vs
 | .cell a ty :: rs,.c s agg sh :: vs => a == s && okSz P ty (bif agg then some sh.length else none) && (agg || sh.length == 1) && okRes P rs vs
 | _,_ => false
def ResOne (X:Cx) (used:List Nat) (u:V) (x:Value) (used':List Nat):Prop :=
 (u.isCell = true ∧ RetOne X used u x used') ∨ ∃ us ys,u = .agg us ∧ x = .agg ys.toArray ∧ RetList X used us ys used' ∧ ∀ z ∈ us,z.isCell = true
theorem pwl {X:Cx} {cs:List V} {xs:Array Value} (hl:cs.length = xs.size) (hx:∀ (i:Nat) (v:V) (y:Value),cs[i]? = some v → xs[i]? = some y → XRel X v y) :
  cs.length = xs.toList.length ∧ ∀ (i:Nat) (v:V) (y:Value),cs[i]? = some v → xs.toList[i]? = some y → XRel X v y :=
 ⟨by simpa using hl,fun i v y hv hy => hx i v y hv (by simpa using hy)⟩
theorem retVar_spec (hR:R E g S a w) {used used':List Nat} {rv:RVar} {u:V} (h:retVar S used rv = some (u,used')) :
  (∀ s sh,rv = .t s sh → ResOne (S.cx g w) used u (a.tmps.getD s undef) used') ∧
  (∀ s agg sh ty,rv = .c s agg sh → okSz P ty (bif agg then some sh.length else none) = true → (agg = false → sh.length = 1) → ∃ x,(do loadVar ty (← asAddr (a.tmps.getD s undef)):Sem Value).run P w = .ok x w ∧ ResOne (S.cx g w) used u x used'):=by
 refine ⟨fun s sh e => ?_,fun s agg sh ty e hs hsh => ?_⟩
 ·subst e
  simp only [retVar] at h
  split at h
  ·rename_i cs hl
   split at h
   ·rename_i us used2 h1
    cases h
    obtain ⟨x,hx,hr⟩:=hR.env s _ hl
    obtain ⟨xs,e,hl2,hxs⟩:=rel_agg hr
    subst e
    obtain ⟨p1,p2⟩:=pwl hl2 hxs
    have hg:a.tmps.getD s undef = .agg xs:=by simp [hx]
    rw [hg]
    exact .inr ⟨us,xs.toList,rfl,rfl,rets_spec rfl h1 p1 p2,fun z hz => (rets_clean h1 z hz).1⟩
   ·cases h
  ·rename_i v hno hl
   split at h
   ·obtain ⟨x,hx,hr⟩:=hR.env s _ hl
    have hg:a.tmps.getD s undef = x:=by simp [hx]
    rw [hg]
    exact .inl ⟨(ret1_clean h).1,ret1_spec rfl h hr⟩
   ·cases h
  ·cases h
 ·subst e
  simp only [retVar] at h
  split at h
  ·rename_i id hl
   split at h
   ·rename_i cs hob
    split at h
    ·rename_i us used2 h1
     cases h
     obtain ⟨x,hx,hr⟩:=hR.env s _ hl
     have e2:=rel_lptr hr
     subst e2
     have hg:a.tmps.getD s undef = .pointer (some ⟨g.κ id,0,none⟩):=by simp [hx];rfl
     obtain ⟨_,_,_,c,et,hh,_,hj⟩:=hR.objs id cs hob
     have hcs:∀ (j:Nat) (v:V),cs[j]? = some v → ∃ y,cellAt w.heap (g.κ id) (0 + j) = some y ∧ XRel (S.cx g w) v y:=fun j v hv => by
      obtain ⟨_,y,hy,hxr⟩:=hj j v hv
      exact ⟨y,by rw [cellAt_of hh,Nat.zero_add];exact hy,hxr⟩
     have hcl:=rets_clean h1
     have hlen:∀ {sh:Sh} {used used':List Nat} {vs us:List V},rets S sh used vs = some (us,used') → vs.length = sh.length ∧ us.length = sh.length:=by
      intro sh
      induction sh with
      | nil => intro used used' vs us h;cases vs <;> simp [rets] at h;obtain ⟨rfl,_⟩:=h;simp
      | cons s sh ih =>
        intro used used' vs us h
        cases vs with
        | nil => simp [rets] at h
        | cons v vs =>
          simp only [rets] at h
          split at h
          ·split at h
           ·rename_i h2;cases h;obtain ⟨p,q⟩:=ih h2;simp [p,q]
           ·cases h
          ·cases h
     obtain ⟨hl1,hl2⟩:=hlen h1
     cases agg with
     | true =>
       have hload:loadAt (some sh.length) cs 0 = some (.agg cs):=by
        have:Nat.ble (0 + sh.length) cs.length = true:=Nat.ble_eq_true_of_le (by omega)
        simp only [loadAt,this,cond_true,List.drop_zero,Option.some.injEq,V.agg.injEq]
        exact List.take_of_length_le (by omega)
       obtain ⟨z,hz,hzr⟩:=run_loadVar_of (P:=P) (w:=w) (t:=ty) hs hcs hload
       obtain ⟨xs,e,hl3,hxs⟩:=rel_agg hzr
       subst e
       obtain ⟨p1,p2⟩:=pwl hl3 hxs
       refine ⟨_,?_,.inr ⟨us,xs.toList,by simp [oneOrAgg],rfl,rets_spec rfl h1 p1 p2,fun z hz => (hcl z hz).1⟩⟩
       rw [hg]
       simp only [Sem.run_bind,asAddr,Sem.run_pure,Result.andThen_ok]
       exact hz
     | false =>
       match cs,us,hl1,hl2 with
       | [v],[u],hl1,hl2 =>
         have hload:loadAt none [v] 0 = some v:=rfl
         obtain ⟨z,hz,hzr⟩:=run_loadVar_of (P:=P) (w:=w) (t:=ty) hs hcs hload
         have hlist:=rets_spec (X:=S.cx g w) rfl h1 (ys:=[z]) rfl (fun i v' y hv hy => by
          cases i with
          | zero => simp at hv hy;subst hv;subst hy;exact hzr
          | succ i => simp at hv)
         refine ⟨z,?_,.inl ⟨(hcl u (by simp)).1,?_⟩⟩
         ·rw [hg]
          simp only [Sem.run_bind,asAddr,Sem.run_pure,Result.andThen_ok]
          exact hz
         ·cases hlist with
          | cons h1 h2 => cases h2;exact h1
       | [],_,hl1,hl2 => have:=hsh rfl;simp at hl1;omega
       | _ :: _ :: _,_,hl1,hl2 => have:=hsh rfl;simp at hl1;omega
       | [_],[],hl1,hl2 => simp at hl1 hl2;omega
       | [_],_ :: _ :: _,hl1,hl2 => simp at hl1 hl2;omega
    ·cases h
   ·cases h
  ·cases h
inductive ResAll (X:Cx):List Nat → List V → List Value → Prop
 | nil (used):ResAll X used [] []
 | cons {used used1 u us x xs} (h:ResOne X used u x used1) (hs:ResAll X used1 us xs):ResAll X used (u :: us) (x :: xs)
def resRun (a:Act):ResultVar → Sem Value
 | .tmp t => pure (a.tmps.getD t undef)
 | .cell s t => do loadVar t (← asAddr (a.tmps.getD s undef))
theorem retVars_spec (hR:R E g S a w):∀ {rs:List ResultVar} {vs:List RVar} {used:List Nat} {us:List V},okRes P rs vs = true → retVars S used vs = some us →
  ∃ xs,(rs.mapM (resRun a)).run P w = .ok xs w ∧ ResAll (S.cx g w) used us xs
 | [],[],used,us,_,h => by simp only [retVars,Option.some.injEq] at h;subst h;exact ⟨[],by simp,.nil _⟩
 | [],_ :: _,_,_,h,_ => by simp [okRes] at h
 | .tmp _ :: _,[],_,_,h,_ => by simp [okRes] at h
 | .cell _ _ :: _,[],_,_,h,_ => by simp [okRes] at h
 | .tmp _ :: _,.c _ _ _ :: _,_,_,h,_ => by simp [okRes] at h
 | .cell _ _ :: _,.t _ _ :: _,_,_,h,_ => by simp [okRes] at h
 | .tmp t :: rs,.t s sh :: vs,used,us,hok,h => by
   simp only [okRes,Bool.and_eq_true,beq_iff_eq] at hok
   obtain ⟨rfl,hok⟩:=hok
   simp only [retVars] at h
   split at h
   ·rename_i v used1 h1
    split at h
    ·rename_i vs' h2
     cases h
     obtain ⟨xs,q1,q2⟩:=retVars_spec hR hok h2
     have:=(retVar_spec (P:=P) hR h1).1 t sh rfl
     refine ⟨_ :: xs,?_,.cons this q2⟩
     simp [List.mapM_cons,resRun,q1]
    ·cases h
   ·cases h
 | .cell c ty :: rs,.c s agg sh :: vs,used,us,hok,h => by
   simp only [okRes,Bool.and_eq_true,beq_iff_eq,Bool.or_eq_true] at hok
   obtain ⟨⟨⟨rfl,hs⟩,hsh⟩,hok⟩:=hok
   simp only [retVars] at h
   split at h
   ·rename_i v used1 h1
    split at h
    ·rename_i vs' h2
     cases h
     obtain ⟨xs,q1,q2⟩:=retVars_spec hR hok h2
     obtain ⟨x,r1,r2⟩:=(retVar_spec (P:=P) hR h1).2 c agg sh ty rfl hs (fun e => hsh.resolve_left (by simp [e]))
     refine ⟨x :: xs,?_,.cons r2 q2⟩
     have r1':(resRun a (.cell c ty)).run P w = .ok x w:=r1
     simp only [List.mapM_cons,Sem.run_bind,r1',Result.andThen_ok]
     simp [q1]
    ·cases h
   ·cases h
theorem ResOne.toRet {X:Cx} {used used':List Nat} {u:V} {x:Value} (h:ResOne X used u x used'):RetOne X used u x used':=by
 rcases h with ⟨_,h⟩ | ⟨us,ys,rfl,rfl,h,hc⟩
 ·exact h
 ·obtain ⟨hl,fam,h1,h2,h3⟩:=h.fams
  refine ⟨.agg _ _ (by simpa using hl) (fun i v y hv hy => ?_),.inl ⟨(fun _ _ _ e => by cases e),h.sub⟩⟩
  rw [List.getElem?_map] at hv
  cases hu:us[i]? with
  | none => simp [hu] at hv
  | some z =>
    simp [hu] at hv
    subst hv
    have:=(h1 i z y hu (by simpa using hy)).1
    have hz:=hc z (List.mem_of_getElem? hu)
    cases z <;> first | exact this | (simp [V.isCell] at hz)
theorem ResAll.toList {X:Cx} {used:List Nat} {us:List V} {xs:List Value} (h:ResAll X used us xs):∃ used',RetList X used us xs used':=by
 induction h with
 | nil used => exact ⟨used,.nil used⟩
 | cons h hs ih =>
   obtain ⟨used',h'⟩:=ih
   exact ⟨used',.cons h.toRet h'⟩
theorem ret_rel {base:Nat} (hR:R E g S a w) {r:V} {x:Value} {us:List V} {ys:List Value} {used':List Nat} (hl:RetList (S.cx g w) [] us ys used') (hcomps:r.comps = us) (hparts:Parts r x ys) (hmen:∀ v ∈ us,∀ d,(strip v).men d = false)
  (hbase:E.w0.heap.size = base) :
  ∃ g',g'.m = g.m ∧ g'.γ = g.γ ∧ (∀ i,i < S.glob.length → g'.ow (g.γ i) = .glob i) ∧ RetRel ⟨w.heap,g',S.glob.length,[]⟩ base E.own r x ∧ ∀ b p q,g'.ow b = .cell p q ↔ g.ow b = .cell p q:=by
 classical
 obtain ⟨hlen,fam,h1,h2,_⟩:=hl.fams
 let own:Nat → Ow:=fun b => match g.ow b with
  | .glob i => .glob i
  | .tok f => if h:∃ p,fam p = some f then .tok h.choose else .none
  | .cell p q => .cell p q
  | _ => .none
 let g':Gh:={ g with ow:=own }
 refine ⟨g',rfl,rfl,fun i hi => ?_,⟨ys,hparts,by rw [hcomps];exact hlen.symm,fun p v y hv hy => ?_⟩,fun b p q => ?_⟩
 ·have:=(hR.glob i _ (List.getElem?_eq_getElem hi)).1
  show own (g.γ i) = _
  simp only [own]
  rw [this]
 ·rw [hcomps] at hv
  obtain ⟨q1,q2⟩:=h1 p v y hv hy
  have hm:=hmen v (List.mem_of_getElem? hv)
  have le:Le ⟨w.heap,g,S.glob.length,[]⟩ ⟨w.heap,g',S.glob.length,[]⟩:=⟨Nat.le_refl _,fun _ _ _ _ h => h,fun _ _ => Nat.le_refl _,Nat.le_refl _,fun _ _ => rfl⟩
  refine ⟨XRel.mono le q1 (fun d => .inr (hm d)),hm,fun t n es e => ?_⟩
  rcases q2 with q2 | ⟨n',e1,e2⟩ | ⟨f,n',es',k,e1,e2,e3,e4⟩
  ·exact absurd e (q2 t n es)
  ·rw [e1] at e;cases e;exact .inl ⟨rfl,e2⟩
  ·rw [e1] at e
   cases e
   rcases e3 with ⟨a1,a2⟩ | ⟨b,off,cap,c,et,b1,b2,b3,b4,b5⟩
   ·exact .inl ⟨List.length_eq_zero_iff.1 a1,a2⟩
   ·obtain ⟨c1,c2,c3⟩:=hR.toks f k b e4 b1
    refine .inr ⟨b,off,cap,c,et,b2,by rw [← hbase];exact c2,?_,b3,b4,b5⟩
    show own b = _
    simp only [own]
    rw [c1]
    have hex:∃ p,fam p = some f:=⟨p,e2⟩
    simp only [dif_pos hex]
    rw [h2 _ _ f hex.choose_spec e2]
 ·show own b = _ ↔ _
  simp only [own]
  split
  ·rename_i h;rw [h]
  ·rename_i f h
   rw [h]
   split <;> exact ⟨(fun e => by cases e),(fun e => by cases e)⟩
  ·rename_i h;rw [h]
  ·rename_i h3
   exact ⟨(fun e => by cases e),fun e => absurd e (h3 p q)⟩
theorem retVar_clean {used used':List Nat} {rv:RVar} {u:V} (h:retVar S used rv = some (u,used')):(u.isCell = true ∧ ∀ d,(strip u).men0 d = false) ∨ ∃ us,u = .agg us ∧ ∀ z ∈ us,z.isCell = true ∧ ∀ d,(strip z).men0 d = false:=by
 cases rv with
 | t s sh =>
   simp only [retVar] at h
   split at h
   ·split at h
    ·rename_i us used2 h1;cases h;exact .inr ⟨us,rfl,rets_clean h1⟩
    ·cases h
   ·split at h
    ·exact .inl (ret1_clean h)
    ·cases h
   ·cases h
 | c s agg sh =>
   simp only [retVar] at h
   split at h
   ·split at h
    ·split at h
     ·rename_i us used2 h1
      cases h
      unfold oneOrAgg
      split
      ·rename_i v;exact .inl (rets_clean h1 v (by simp))
      ·exact .inr ⟨us,rfl,rets_clean h1⟩
     ·cases h
    ·cases h
   ·cases h
theorem retVars_clean:∀ {rs:List RVar} {used:List Nat} {us:List V},retVars S used rs = some us → ∀ u ∈ us,(u.isCell = true ∧ ∀ d,(strip u).men0 d = false) ∨ ∃ us,u = .agg us ∧ ∀ z ∈ us,z.isCell = true ∧ ∀ d,(strip z).men0 d = false
 | [],used,us,h => by simp only [retVars,Option.some.injEq] at h;subst h;simp
 | r :: rs,used,us,h => by
   simp only [retVars] at h
   split at h
   ·rename_i v used1 h1
    split at h
    ·rename_i vs h2
     cases h
     intro u hu
     rcases List.mem_cons.1 hu with e | e
     ·subst e;exact retVar_clean h1
     ·exact retVars_clean h2 u e
    ·cases h
   ·cases h
theorem strip_men1 {u:V} (h:(u.isCell = true ∧ ∀ d,(strip u).men0 d = false) ∨ ∃ us,u = .agg us ∧ ∀ z ∈ us,z.isCell = true ∧ ∀ d,(strip z).men0 d = false) (d:Nat):(strip u).men1 d = false:=by
 rcases h with ⟨hc,h⟩ | ⟨us,rfl,h⟩
 ·have:=h d
  cases u <;> first | exact this | (simp [V.isCell] at hc)
 ·simp only [strip,V.men1,List.any_eq_false,List.mem_map]
  rintro x ⟨z,hz,rfl⟩
  obtain ⟨hc,hm⟩:=h z hz
  have:=hm d
  cases z <;> first | (simpa [strip] using this) | (simp [V.isCell] at hc)
theorem retVal_clean {rs:List RVar} {r:V} (h:retVal S rs = some r) (d:Nat):(stripAll r).men d = false:=by
 unfold retVal at h
 split at h
 ·rename_i v hv
  cases h
  have hc:=retVars_clean hv r (by simp)
  rcases hc with ⟨hcell,hm⟩ | ⟨us,rfl,hm⟩
  ·have:=men_of_men0 (hm d)
   cases r <;> first | exact this | (simp [V.isCell] at hcell)
  ·simp only [stripAll,V.comps,rebuild,V.men,V.men1,List.any_eq_false,List.mem_map]
   rintro x ⟨z,hz,rfl⟩
   simp [(hm z hz).2 d]
 ·rename_i vs hno hv
  cases h
  simp only [stripAll,V.comps,rebuild,V.men,List.any_eq_false,List.mem_map]
  rintro x ⟨z,hz,rfl⟩
  simp [strip_men1 (retVars_clean hv z hz) d]
 ·cases h
def defRegion (nt:Nat):Code → Option FuncId
 | .region _ ops false => match ops.toList with
   | [o,q] => match o.dst,o.op,o.guard,q.dst,q.op,q.guard with
     | some d,.move (.tmp 0),none,none,.defer ⟨.value (.func f),as,_⟩,none => match as.toList with
       | [.tmp e] => bif e == d && Nat.blt d nt then some f else none
       | _ => none
     | _,_,_,_,_,_ => none
   | _ => none
 | _ => none
def peel (nt:Nat):List FuncId → Code → Option Code
 | [],c => some c
 | f :: fs,.seq a c => bif defRegion nt a == some f then peel nt fs c else none
 | _,_ => none
def okFunc (P:Program) (ps:List (Nat × Nat)) (fn:Func) (vf:VFunc):Bool :=
 (match fn.body with
  | some c => (match peel fn.ntmps vf.defs c with | some c' => okCode P ps fn.ntmps c' vf.body | none => false) && (vf.defs.isEmpty || (startsDefer c && fn.results.toList.isEmpty && vf.defs.all (defable P)))
  | none => false) && Nat.ble vf.nparams fn.ntmps && okRes P fn.results.toList vf.results && !(fn.name == "runtime.NumGoroutine")
theorem look_zip:∀ {vs:List V} {i s:Nat} {v:V},look s (zipEnv i vs) = some v → ∃ k,s = i + k ∧ vs[k]? = some v
 | [],i,s,v,h => by simp [zipEnv,look] at h
 | u :: us,i,s,v,h => by
   simp only [zipEnv] at h
   rw [look_cons] at h
   split at h
   ·rename_i e;cases h;exact ⟨0,by omega,by simp⟩
   ·obtain ⟨k,h1,h2⟩:=look_zip h
    exact ⟨k + 1,by omega,by simpa using h2⟩
theorem results_run {fn:Func} {xs:List Value} (h:(fn.results.toList.mapM (resRun a)).run P w = .ok xs w):(results fn a.tmps).run P w = .ok (if h:xs.length = 1 then xs[0] else .tuple xs.toArray) w:=by
 have e:results fn a.tmps = (do
   let vs ← fn.results.mapM (resRun a)
   pure (if h:vs.size = 1 then vs[0] else .tuple vs)):=by
  unfold results
  congr 1
 rw [e,Array.mapM_eq_mapM_toList]
 simp only [Sem.run_bind,Sem.run_map,h,Result.andThen_ok,Sem.run_pure]
 simp
theorem parts_of {r:V} {xs:List Value} {us:List V} (hus:r = .tuple us):Parts r (.tuple xs.toArray) xs:=by
 subst hus
 rfl
theorem call_wp {ps:List (Nat × Nat)} (hps:∀ f k,look f ps = some k → MutOK P k f) (hm:P.follows .mixedOrders = true) (hC:CalleeOK P C) {n:Nat} {fn:Func} {c:Code} {vf:VFunc} (h1:okCode P ps fn.ntmps c vf.body = true)
  (h3:okRes P fn.results.toList vf.results = true) {args:List V} {G G':List GObj} {r:V} (hcall:vf.call C n args G = some (r,G')) :
  (∀ d,(stripAll r).men d = false) ∧ ∀ (D:List Deferred) (w:World) (g:Gh) (a0:Act),GlobRel w.heap g G → a0.tmps.size = fn.ntmps →
   (∀ (i:Nat) (v:V),args[i]? = some v → ∃ x,a0.tmps[i]? = some x ∧ XRel ⟨w.heap,g,G.length,[]⟩ v x) → a0.defers = D →
   c.wp P (fun e a' w' => (e = .normal ∨ e = .ret) ∧ a'.defers = D ∧ ∃ v,(results fn a'.tmps).run P w' = .ok v w' ∧
    ∃ x g'',Ending.returned v = .returned x ∧ Ext w g G.length w' g'' G'.length ∧ GlobRel w'.heap g'' G' ∧ RetRel ⟨w'.heap,g'',G'.length,[]⟩ w.heap.size (ownB g) r x) a0 w:=by
 unfold VFunc.call at hcall
 cases hlen:args.length == vf.nparams with
 | false => simp [hlen] at hcall
 | true =>
   simp only [hlen,cond_true] at hcall
   have hlen:=eq_of_beq hlen
   have key:∃ ve S,VC.run C n vf.body { env:=zipEnv 0 args,objs:=[],toks:=[],glob:=G } = some (ve,S) ∧ (ve = .normal ∨ ve = .ret) ∧ retVal S vf.results = some r ∧ S.glob = G':=by
    split at hcall
    ·rename_i S hrun
     split at hcall
     ·rename_i v hv
      cases hcall
      exact ⟨_,S,hrun,.inl rfl,hv,rfl⟩
     ·cases hcall
    ·rename_i S hrun
     split at hcall
     ·rename_i v hv
      cases hcall
      exact ⟨_,S,hrun,.inr rfl,hv,rfl⟩
     ·cases hcall
    ·cases hcall
   obtain ⟨ve,S,hrun,hve,hret,rfl⟩:=key
   refine ⟨retVal_clean hret,fun D w g a0 hG hsz hx hD => ?_⟩
   let E:Entry:=⟨w,g,G.length,fn.ntmps,D⟩
   have hR:R E g { env:=zipEnv 0 args,objs:=[],toks:=[],glob:=G } a0 w:=by
    refine ⟨fun s v hs => ?_,fun id cs h => by simp [look] at h,fun f k b h _ => by simp [look] at h,hG,hD,hsz,?_⟩
    ·obtain ⟨k,hk,hv⟩:=look_zip hs
     have hks:s = k:=by omega
     subst hks
     exact hx s v hv
    ·exact ⟨rfl,rfl,rfl,Nat.le_refl _,Nat.le_refl _,fun _ _ => rfl,fun i a b => absurd a (by show ¬ G.length ≤ i;simp at b;omega),fun _ _ _ _ => ⟨rfl,rfl⟩,fun _ _ _ => ⟨fun _ _ _ h => h,Nat.le_refl _⟩,fun b p q _ h => ⟨p,q,h⟩⟩
   refine wp_mono (code_sim (E:=E) hps hm hC n h1 hR hrun) fun e a' w' he => ?_
   obtain ⟨rfl,g',hR'⟩:=he
   have hres:∃ us,retVars S [] vf.results = some us:=by
    unfold retVal at hret
    split at hret
    ·exact ⟨_,by assumption⟩
    ·exact ⟨_,by assumption⟩
    ·cases hret
   obtain ⟨us,hus⟩:=hres
   obtain ⟨ys,q1,q2⟩:=retVars_spec hR' h3 hus
   have q3:=results_run q1
   have hcl:=retVars_clean hus
   have fin:∀ x,(results fn a'.tmps).run P w' = .ok x w' → (∃ zs us' used',RetList (S.cx g' w') [] us' zs used' ∧ r.comps = us' ∧ Parts r x zs ∧ ∀ v ∈ us',∀ d,(strip v).men d = false) →
     a'.defers = D ∧ ∃ v,(results fn a'.tmps).run P w' = .ok v w' ∧ (∃ x g'',Ending.returned v = .returned x ∧ Ext w g G.length w' g'' S.glob.length ∧ GlobRel w'.heap g'' S.glob ∧ RetRel ⟨w'.heap,g'',S.glob.length,[]⟩ w.heap.size (ownB g) r x):=by
    rintro x hx ⟨zs,us',used',hl,hc,hp,hmen⟩
    obtain ⟨g'',e1,e2,e3,e4,e5⟩:=ret_rel hR' hl hc hp hmen (base:=w.heap.size) rfl
    refine ⟨hR'.defers,x,hx,x,g'',rfl,?_,⟨?_,?_⟩,e4⟩
    ·exact ⟨hR'.same.os,hR'.same.tape,hR'.same.output,hR'.same.size,hR'.same.nle,fun i hi => by rw [e2];exact hR'.same.γ i hi,fun i a b => by rw [e2];exact hR'.same.γnew i a b,fun b hb hno hnw => by rw [e1];exact hR'.same.old b hb hno hnw,
      fun b hb hw => by rw [e1];exact hR'.same.grow b hb hw,fun b p q hb h => hR'.same.cold b p q hb ((e5 b p q).1 h)⟩
    ·intro i o ho
     obtain ⟨k1,k2⟩:=hR'.glob i o ho
     refine ⟨by rw [e2];exact e3 i (lt_of_get? ho),?_⟩
     cases o with
     | map es =>
       obtain ⟨k3,c,e,k4,k5,k6⟩:=k2
       rw [e2]
       refine ⟨by rw [e1];exact k3,c,e,k4,k5,fun j v y hj hy => ?_⟩
       obtain ⟨k7,k8,k9,k10⟩:=k6 j v y hj hy
       have le:Le ⟨w'.heap,g',S.glob.length,[]⟩ ⟨w'.heap,g'',S.glob.length,[]⟩:=⟨Nat.le_refl _,fun _ _ _ _ h => h,fun b _ => by rw [e1];exact Nat.le_refl _,Nat.le_refl _,fun _ _ => by rw [e2]⟩
       exact ⟨k7,k8,k9.mono le fun d => .inr (k7 d),k10.mono le fun d => .inr (men_of_men1 (k8 d))⟩
     | cells cs =>
       obtain ⟨k3,c,e,k4,k5,k6⟩:=k2
       rw [e2]
       refine ⟨by rw [e1];exact k3,c,e,k4,k5,fun j v y hj hy => ?_⟩
       obtain ⟨k7,k8,k9⟩:=k6 j v y hj hy
       have le:Le ⟨w'.heap,g',S.glob.length,[]⟩ ⟨w'.heap,g'',S.glob.length,[]⟩:=⟨Nat.le_refl _,fun _ _ _ _ h => h,fun b _ => by rw [e1];exact Nat.le_refl _,Nat.le_refl _,fun _ _ => by rw [e2]⟩
       exact ⟨k7,k8,k9.mono le fun d => .inr (k8 d)⟩
    ·intro i o ho
     have k1:=hR'.glob.own i o ho
     rw [e2]
     cases o with
     | map es => trivial
     | cells cs =>
       intro j n es y hj hy
       rcases k1 j n es y hj hy with h | ⟨q,cap,c',e',q1,q2,q3,q4,q5,q6⟩
       ·exact .inl h
       ·exact .inr ⟨q,cap,c',e',q1,(e5 _ _ _).2 q2,by rw [e1];exact q3,q4,q5,q6⟩
   have goal:a'.defers = D ∧ ∃ v,(results fn a'.tmps).run P w' = .ok v w' ∧ (∃ x g'',Ending.returned v = .returned x ∧ Ext w g G.length w' g'' S.glob.length ∧ GlobRel w'.heap g'' S.glob ∧ RetRel ⟨w'.heap,g'',S.glob.length,[]⟩ w.heap.size (ownB g) r x):=by
    refine fin _ q3 ?_
    unfold retVal at hret
    rw [hus] at hret
    match us,ys,q2,hret,hcl with
    | [u],[x],q2,hret,hcl =>
      simp only [Option.some.injEq] at hret
      subst hret
      cases q2 with
      | cons hone hnil =>
        rcases hone with ⟨hcell,hone⟩ | ⟨vs,zs,rfl,rfl,hl,hc⟩
        ·refine ⟨[x],[u],_,.cons hone (.nil _),?_,?_,fun v hv d => ?_⟩
         ·cases u <;> first | rfl | (simp [V.isCell] at hcell)
         ·simp only [List.length_singleton,dif_pos,List.getElem_cons_zero]
          cases u <;> first | rfl | (simp [V.isCell] at hcell)
         ·simp only [List.mem_singleton] at hv
          subst hv
          rcases hcl v (by simp) with ⟨_,h⟩ | ⟨vs,rfl,_⟩
          ·exact men_of_men0 (h d)
          ·simp [V.isCell] at hcell
        ·refine ⟨zs,vs,_,hl,rfl,?_,fun v hv d => ?_⟩
         ·simp only [List.length_singleton,dif_pos,List.getElem_cons_zero]
          rfl
         ·rcases hcl (.agg vs) (by simp) with ⟨h,_⟩ | ⟨vs',e,h⟩
          ·simp [V.isCell] at h
          ·cases e;exact men_of_men0 ((h v hv).2 d)
    | [],ys,q2,hret,hcl =>
      cases q2
      simp only [Option.some.injEq] at hret
      subst hret
      exact ⟨[],[],[],.nil _,rfl,rfl,by simp⟩
    | u1 :: u2 :: us,ys,q2,hret,hcl =>
      simp only [Option.some.injEq] at hret
      subst hret
      obtain ⟨used',hl⟩:=q2.toList
      have hlen2:=hl.fams.1
      refine ⟨ys,_,used',hl,rfl,?_,fun v hv d => men_of_men1 (strip_men1 (hcl v hv) d)⟩
      rw [dif_neg (by simp at hlen2;omega)]
      rfl
    | [u],[],q2,_,_ => cases q2
    | [u],_ :: _ :: _,q2,_,_ => cases q2 with | cons _ h => cases h
   rcases hve with rfl | rfl
   ·exact ⟨.inl rfl,goal⟩
   ·exact ⟨.inr rfl,goal⟩
theorem enter_args {w:World} {g:Gh} {G:List GObj} {args:List V} {xs:List Value} {fn:Func} (hlx:args.length = xs.length) (hn:args.length ≤ fn.ntmps)
  (hx:∀ (i:Nat) (v:V) (x:Value),args[i]? = some v → xs[i]? = some x → XRel ⟨w.heap,g,G.length,[]⟩ v x) :
  (xs.toArray ++ Array.replicate (fn.ntmps - xs.toArray.size) undef).size = fn.ntmps ∧
  ∀ (i:Nat) (v:V),args[i]? = some v → ∃ x,(xs.toArray ++ Array.replicate (fn.ntmps - xs.toArray.size) undef)[i]? = some x ∧ XRel ⟨w.heap,g,G.length,[]⟩ v x:=by
 refine ⟨by simp;omega,fun s v hv => ?_⟩
 have hlt:s < xs.length:=by rw [← hlx];exact lt_of_get? hv
 refine ⟨xs[s],?_,hx s v xs[s] hv (List.getElem?_eq_getElem hlt)⟩
 rw [Array.getElem?_append_left (by simpa using hlt)]
 simp [hlt]
theorem wrap_nil {C:CallF} {vf:VFunc} (h:vf.defs = []) {args:List V} {o:Option (V × List GObj)}:wrap C vf args o = o:=by
 unfold wrap
 rcases o with _ | ⟨r,G⟩
 ·rfl
 ·simp only [h]
theorem call_len {C:CallF} {n:Nat} {vf:VFunc} {args:List V} {G:List GObj} {y:V × List GObj} (h:vf.call C n args G = some y):args.length = vf.nparams:=by
 unfold VFunc.call at h
 cases hlen:args.length == vf.nparams with
 | false => simp [hlen] at h
 | true => exact eq_of_beq hlen
theorem call_sim {ps:List (Nat × Nat)} (hps:∀ f k,look f ps = some k → MutOK P k f) (hm:P.follows .mixedOrders = true) (hC:CalleeOK P C) {n:Nat} {f:FuncId} {fn:Func} {vf:VFunc} (hfn:P.funcs[f]? = some fn) (hok:okFunc P ps fn vf = true) (hds:vf.defs = []) {args:List V} {G G':List GObj} {r:V}
  (hcall:vf.call C n args G = some (r,G')):CallSim P f args G r G':=by
 simp only [okFunc,Bool.and_eq_true,Bool.not_eq_true'] at hok
 obtain ⟨⟨⟨h1,h2⟩,h3⟩,h4⟩:=hok
 have h2:=Nat.le_of_ble_eq_true h2
 have hlen:=call_len hcall
 cases hb:fn.body with
 | none => rw [hb] at h1;cases h1
 | some c =>
   rw [hb] at h1
   simp only [hds,peel,Bool.and_eq_true] at h1
   obtain ⟨k1,k2⟩:=call_wp hps hm hC h1.1 h3 hcall
   refine ⟨⟨fn,hfn,by simp [hb],h4⟩,k1,fun w g xs hG hlx hx => ?_,fun _ u w g xs hG hlx hx => ?_⟩
   ·obtain ⟨e1,e2⟩:=enter_args (fn:=fn) hlx (by omega) hx
    refine calls_of_wp hfn hb (wp_mono (k2 [] w g _ hG e1 e2 rfl) fun e a' w' he => ?_)
    obtain ⟨rfl | rfl,he⟩:=he
    ·exact he
    ·exact he
   ·obtain ⟨e1,e2⟩:=enter_args (fn:=fn) hlx (by omega) hx
    refine callsD_of_wp hfn hb (wp_mono (k2 [] w g _ hG e1 e2 rfl) fun e a' w' he => ?_)
    obtain ⟨rfl | rfl,he⟩:=he
    ·exact he
    ·exact he
def mkD (x:Value) (f:FuncId):Deferred:=⟨.fn (.func f) #[],#[x]⟩
theorem peel_wp {nt:Nat} {x0:Value} {Q:Exit → Act → World → Prop} {w:World}:∀ {fs:List FuncId} {c c':Code},peel nt fs c = some c' → ∀ {a:Act},a.tmps.size = nt → a.tmps[0]? = some x0 →
  (∀ a':Act,a'.tmps.size = nt → a'.tmps[0]? = some x0 → a'.defers = fs.reverse.map (mkD x0) ++ a.defers → c'.wp P Q a' w) → c.wp P Q a w
 | [],c,c',h,a,hs,h0,hK => by
   simp only [peel,Option.some.injEq] at h
   subst h
   exact hK a hs h0 (by simp)
 | f :: fs,.seq d c,c',h,a,hs,h0,hK => by
   simp only [peel] at h
   cases hd:defRegion nt d == some f with
   | false => simp [hd] at h
   | true =>
     simp only [hd,cond_true] at h
     have hd2:=eq_of_beq hd
     clear hd
     have hd:=hd2
     clear hd2
     unfold defRegion at hd
     split at hd
     ·rename_i id ops
      split at hd
      ·rename_i o q hops
       split at hd
       ·rename_i dd g as ts e1 e2 e3 e4 e5 e6
        split at hd
        ·rename_i ee has
         cases hc:ee == dd && Nat.blt dd nt with
         | false => simp [hc] at hd
         | true =>
           simp only [hc,cond_true,Option.some.injEq] at hd
           subst hd
           simp only [Bool.and_eq_true,beq_iff_eq] at hc
           obtain ⟨rfl,hlt⟩:=hc
           have hlt:ee < nt:=Nat.le_of_ble_eq_true hlt
           have has':as = #[.tmp ee]:=by apply Array.ext';simpa using has
           subst has'
           have hops':ops = #[o,q]:=by apply Array.ext';simpa using hops
           subst hops'
           have v0:a.eval (.tmp 0) = x0:=by simp [Act.eval,h0]
           refine wp_seq ?_
           refine wp_region ?_
           show wpOps P #[o,q] _ [0,1] a w
           rw [wpOps_cons]
           unfold wpOp
           have w1:Region.wanted o (yielded #[o,q] a.tmps) = true:=by simp [Region.wanted,e3]
           simp only [List.getElem?_toArray,List.getElem?_cons_zero,w1,if_true]
           refine .inl ?_
           have x1:(execOp a.eval o).run P w = .ok (.value x0) w:=by
            unfold execOp
            rw [e2]
            simp [v0]
           unfold Oper.wp
           rw [x1,Oper.upon_value,e1,wpOps_cons]
           unfold wpOp
           have w2:Region.wanted q (yielded #[o,q] (a.put (some ee) x0).tmps) = true:=by simp [Region.wanted,e6]
           simp only [List.getElem?_toArray,List.getElem?_cons_succ,List.getElem?_cons_zero,w2,if_true]
           refine .inl ?_
           have v1:(a.put (some ee) x0).eval (.tmp ee) = x0:=by simp [Act.eval,Act.put,hs,hlt]
           have x2:(execOp (a.put (some ee) x0).eval q).run P w = .ok (.defer (mkD x0 g)) w:=by
            unfold execOp
            rw [e5]
            simp only [resolve,Sem.run_bind]
            simp [Deferred.ofValue,Act.eval,mkD] at v1 ⊢
            simp [v1]
           unfold Oper.wp
           rw [x2,Oper.upon_defer,e4]
           simp only [wpOps]
           refine peel_wp h ?_ ?_ fun a' k1 k2 k3 => hK a' k1 k2 ?_
           ·simp [Act.put,hs]
           ·simp only [Act.put,Array.getElem?_setIfInBounds]
            split
            ·rename_i e;subst e;simp [hs,hlt]
            ·exact h0
           ·rw [k3]
            simp [Act.put]
        ·cases hd
       ·cases hd
      ·cases hd
     ·cases hd
 | _ :: _,.skip,_,h,_,_,_,_ => by simp [peel] at h
 | _ :: _,.region ..,_,h,_,_,_,_ => by simp [peel] at h
theorem results_nil {fn:Func} (h:fn.results.toList.isEmpty = true) (tmps:Array Value) (w:World):(results fn tmps).run P w = .ok (.tuple #[]) w:=by
 have h':fn.results.toList = []:=by simpa using h
 have:=results_run (P:=P) (fn:=fn) (a:={ tmps:=tmps,defers:=[] }) (w:=w) (xs:=[]) (by rw [h'];rfl)
 simpa using this
theorem Ext.trans {w w' w'':World} {g g' g'':Gh} {N N' N'':Nat} (hγ:∀ b,ownB g b → ∀ i,i < N → g.γ i ≠ b) (h:Ext w g N w' g' N') (k:Ext w' g' N' w'' g'' N''):Ext w g N w'' g'' N'' where
 os:=k.os.trans h.os
 tape:=k.tape.trans h.tape
 output:=k.output.trans h.output
 size:=Nat.le_trans h.size k.size
 nle:=Nat.le_trans h.nle k.nle
 γ:=fun i hi => (k.γ i (Nat.lt_of_lt_of_le hi h.nle)).trans (h.γ i hi)
 γnew:=fun i h1 h2 => by
  by_cases hi:i < N'
  ·rw [k.γ i hi];exact h.γnew i h1 hi
  ·exact Nat.le_trans h.size (k.γnew i (by omega) h2)
 old:=fun b hb hno hnw => by
  obtain ⟨p1,p2⟩:=h.old b hb hno hnw
  obtain ⟨q1,q2⟩:=k.old b (Nat.lt_of_lt_of_le hb h.size) (fun i hi e => by
   by_cases hi2:i < N
   ·exact hno i hi2 ((h.γ i hi2).symm.trans e)
   ·have:=h.γnew i (by omega) hi;omega) (fun ⟨p,q,hw⟩ => hnw (h.cold b p q hb hw))
  exact ⟨q1.trans p1,q2.trans p2⟩
 grow:=fun b hb hw => by
  obtain ⟨p1,p2⟩:=h.grow b hb hw
  have hlt:=Nat.lt_of_lt_of_le hb h.size
  by_cases hw2:ownB g' b
  ·obtain ⟨q1,q2⟩:=k.grow b hlt hw2
   exact ⟨fun o y ho hy => q1 o y (Nat.lt_of_lt_of_le ho p2) (p1 o y ho hy),Nat.le_trans p2 q2⟩
  ·by_cases hg:∃ i,i < N' ∧ g'.γ i = b
   ·obtain ⟨i,hi,e⟩:=hg
    by_cases hi2:i < N
    ·exact absurd ((h.γ i hi2).symm.trans e) (hγ b hw i hi2)
    ·have:=h.γnew i (by omega) hi;omega
   ·obtain ⟨q1,q2⟩:=k.old b hlt (fun i hi e => hg ⟨i,hi,e⟩) hw2
    exact ⟨fun o y ho hy => by rw [cellAt_same q1];exact p1 o y ho hy,by rw [q2];exact p2⟩
 cold:=fun b p q hb ho => by
  obtain ⟨p',q',hw⟩:=k.cold b p q (Nat.lt_of_lt_of_le hb h.size) ho
  exact h.cold b p' q' hb hw
theorem posts_sim (hC:CalleeOK P C) {fn:Func} (hres:fn.results.toList.isEmpty = true) {tmps:Array Value} {w0:World} {g0:Gh} {N0 i off:Nat} (hi:i < N0) (hγ:∀ b,ownB g0 b → ∀ i,i < N0 → g0.γ i ≠ b) {GF:List GObj} :
  ∀ {l:List FuncId} {w:World} {g:Gh} {G:List GObj},(∀ f ∈ l,defable P f = true) → posts C [.gptr i off] l G = some GF → GlobRel w.heap g G → Ext w0 g0 N0 w g G.length →
  Leaves P fn tmps (fun e w' => ∃ x g'',e = .returned x ∧ Ext w0 g0 N0 w' g'' GF.length ∧ GlobRel w'.heap g'' GF ∧ RetRel ⟨w'.heap,g'',GF.length,[]⟩ w0.heap.size (ownB g0) (.tuple []) x)
   (l.map (mkD (.pointer (some ⟨g0.γ i,off,none⟩)))) .returning w
 | [],w,g,G,_,hp,hG,hE => by
   simp only [posts,Option.some.injEq] at hp
   subst hp
   exact ⟨_,results_nil hres tmps w,_,g,rfl,hE,hG,[],rfl,rfl,by simp [V.comps]⟩
 | f :: l,w,g,G,hd,hp,hG,hE => by
   simp only [posts] at hp
   split at hp
   ·rename_i r G1 hc
    refine ⟨by simp,.func f,#[],f,#[.pointer (some ⟨g0.γ i,off,none⟩)],rfl,?_,?_⟩
    ·obtain ⟨fn1,hf1,hf2,hf3⟩:=(hC f _ _ _ _ hc).fn
     have hf3':¬ fn1.name = "runtime.NumGoroutine":=by simpa using hf3
     simp [mkD,invoke,callFunc,hf1,hf3']
     intro hno;simp [hno] at hf2
    ·have hs:=(hC f _ _ _ _ hc).dfr (hd f (by simp)) .returning w g [.pointer (some ⟨g0.γ i,off,none⟩)] hG rfl (by
      intro k v x hv hx
      cases k with
      | zero =>
        simp only [List.getElem?_cons_zero,Option.some.injEq] at hv hx
        subst hv;subst hx
        rw [← hE.γ i hi]
        exact .gptr i off (Nat.lt_of_lt_of_le hi hE.nle)
      | succ k => simp at hv)
     intro c cs hu
     obtain ⟨e,u',w',fr,⟨rfl,x,g1,rfl,h1,h2,h3⟩,k1,k2,k3⟩:=hs c cs hu
     refine ⟨_,_,w',fr,?_,k1,k2,k3⟩
     exact posts_sim hC hres hi hγ (fun f hf => hd f (by simp [hf])) hp h2 (hE.trans hγ h1)
   ·cases hp
theorem one_sim {ps:List (Nat × Nat)} (hps:∀ f k,look f ps = some k → MutOK P k f) (hm:P.follows .mixedOrders = true) (hC:CalleeOK P C) {n:Nat} {f:FuncId} {fn:Func} {vf:VFunc} (h1:P.funcs[f]? = some fn) (h2:okFunc P ps fn vf = true)
  {args:List V} {G G':List GObj} {r:V} (h:vf.one C n args G = some (r,G')):CallSim P f args G r G':=by
 unfold VFunc.one at h
 cases hds:vf.defs with
 | nil =>
   rw [wrap_nil hds] at h
   exact call_sim hps hm hC h1 h2 hds h
 | cons f1 fs1 =>
   simp only [okFunc,Bool.and_eq_true,Bool.not_eq_true'] at h2
   obtain ⟨⟨⟨k1,k2⟩,k3⟩,k4⟩:=h2
   cases hb:fn.body with
   | none => rw [hb] at k1;cases k1
   | some c =>
     rw [hb] at k1
     simp only [Bool.and_eq_true,Bool.or_eq_true] at k1
     obtain ⟨k1,k5⟩:=k1
     rcases k5 with k5 | k5
     ·rw [hds] at k5;cases k5
     obtain ⟨⟨k5,k6⟩,k7⟩:=k5
     split at k1
     ·rename_i c' hpeel
      unfold wrap at h
      split at h
      ·cases h
      ·rename_i r1 G1 hcall
       rw [hds] at h
       simp only at h
       split at h
       ·rename_i i off
        split at h
        ·rename_i G2 hposts
         cases h
         rw [← hds] at hposts
         obtain ⟨_,m2⟩:=call_wp hps hm hC k1 k3 hcall
         have hlen:=call_len hcall
         refine ⟨⟨fn,h1,by simp [hb],k4⟩,fun d => by rfl,fun w g xs hG hlx hx => ?_,fun hdf => ?_⟩
         ·obtain ⟨e1,e2⟩:=enter_args (fn:=fn) hlx (by have:=Nat.le_of_ble_eq_true k2;omega) hx
          refine calls_of_wp_defers h1 hb ?_
          obtain ⟨x0,z1,z2⟩:=e2 0 (.gptr i off) rfl
          refine peel_wp hpeel e1 z1 fun a' q1 q2 q3 => ?_
          cases z2 with
          | gptr _ _ hi =>
            refine wp_mono (m2 _ w g a' hG q1 (fun s v hv => ?_) rfl) fun e a2 w2 he => ?_
            ·cases s with
             | zero => simp at hv;subst hv;exact ⟨_,q2,.gptr i off hi⟩
             | succ s => simp at hv
            ·obtain ⟨he,hd2,v,hv,x,g2,hx2,hE,hG2,_⟩:=he
             have hL:=posts_sim hC (fn:=fn) k6 (tmps:=a2.tmps) (w0:=w) (g0:=g) (N0:=G.length) (i:=i) (off:=off) hi (fun b ⟨p,q,hb⟩ i hi e => by have h0:=(hG i _ (List.getElem?_eq_getElem hi)).1;rw [e,hb] at h0;cases h0) (l:=vf.defs.reverse) (w:=w2) (g:=g2) (fun f hf => by
              have:=List.all_eq_true.1 k7 f (by simpa using hf)
              exact this) hposts hG2 hE
             have hD:a2.defers = vf.defs.reverse.map (mkD (.pointer (some ⟨g.γ i,off,none⟩))):=by
              rw [hd2,q3];simp
             rcases he with rfl | rfl
             ·show Leaves P fn a2.tmps _ a2.defers .returning w2
              rw [hD];exact hL
             ·show Leaves P fn a2.tmps _ a2.defers .returning w2
              rw [hD];exact hL
          | plain hp _ => cases hp
         ·simp [defable,h1,hb,k5] at hdf
        ·cases h
       ·cases h
     ·cases k1
theorem both_sim {f:FuncId} {args:List V} {G G':List GObj} {r:V} {p m:Nat} (hp:args[p]? = some (.slice none m [])) (h1:CallSim P f (args.set p .nils) G r G') (h2:CallSim P f (args.set p (.nonil m)) G r G'):CallSim P f args G r G':=by
 have key:∀ (w:World) (g:Gh) (xs:List Value),args.length = xs.length → (∀ (i:Nat) (v:V) (x:Value),args[i]? = some v → xs[i]? = some x → XRel ⟨w.heap,g,G.length,[]⟩ v x) →
   ∃ u,(u = .nils ∨ u = .nonil m) ∧ ∀ (i:Nat) (v:V) (x:Value),(args.set p u)[i]? = some v → xs[i]? = some x → XRel ⟨w.heap,g,G.length,[]⟩ v x:=fun w g xs hl hx => by
  have hlt:=lt_of_get? hp
  have hr:=hx p _ xs[p] hp (List.getElem?_eq_getElem (by omega))
  have hu:∃ u,(u = .nils ∨ u = .nonil m) ∧ XRel ⟨w.heap,g,G.length,[]⟩ u xs[p]:=by
   generalize xs[p] = x at hr
   cases hr with
   | plain h _ =>
     cases h with
     | nil => exact ⟨.nils,.inl rfl,.plain .nils (fun _ _ _ e => by cases e)⟩
     | empty _ _ a cap => exact ⟨.nonil m,.inr rfl,.nonil m a cap⟩
     | slice _ _ _ b off cap => exact ⟨.nonil m,.inr rfl,.nonil m _ cap⟩
  obtain ⟨u,h1,h2⟩:=hu
  refine ⟨u,h1,fun i v x hv hxx => ?_⟩
  rw [List.getElem?_set] at hv
  split at hv
  ·rename_i e
   subst e
   first | rw [if_pos hlt] at hv | skip
   cases hv
   rw [List.getElem?_eq_getElem (by omega)] at hxx
   cases hxx
   exact h2
  ·exact hx i v x hv hxx
 refine ⟨h1.fn,h1.ret,fun w g xs hG hl hx => ?_,fun hd u w g xs hG hl hx => ?_⟩
 ·obtain ⟨u,hu,hr⟩:=key w g xs hl hx
  rcases hu with rfl | rfl
  ·exact h1.run w g xs hG (by simpa using hl) hr
  ·exact h2.run w g xs hG (by simpa using hl) hr
 ·obtain ⟨z,hz,hr⟩:=key w g xs hl hx
  rcases hz with rfl | rfl
  ·exact h1.dfr hd u w g xs hG (by simpa using hl) hr
  ·exact h2.dfr hd u w g xs hG (by simpa using hl) hr
theorem both_some {n:Nat} {vf:VFunc} {p m:Nat} {args:List V} {G:List GObj} {r:V × List GObj} (h:vf.both C n p m args G = some r):vf.one C n (args.set p .nils) G = some r ∧ vf.one C n (args.set p (.nonil m)) G = some r:=by
 unfold VFunc.both at h
 split at h
 ·rename_i e;exact ⟨h,e ▸ h⟩
 ·cases h
theorem callee_ok {ps:List (Nat × Nat)} (hps:∀ f k,look f ps = some k → MutOK P k f) (hm:P.follows .mixedOrders = true) {F:FuncId → Option VFunc} (hF:∀ f vf,F f = some vf → ∃ fn,P.funcs[f]? = some fn ∧ okFunc P ps fn vf = true):∀ n,CalleeOK P (call F n)
 | 0 => fun f args G r G' h => by cases h
 | n + 1 => fun f args G r G' h => by
   simp only [call] at h
   split at h
   ·rename_i vf hvf
    obtain ⟨fn,h1,h2⟩:=hF f vf hvf
    unfold VFunc.ans at h
    split at h
    ·exact one_sim hps hm (callee_ok hps hm hF n) h1 h2 h
    ·split at h
     ·rename_i p _ m hp
      obtain ⟨h3,h4⟩:=both_some h
      exact both_sim hp (one_sim hps hm (callee_ok hps hm hF n) h1 h2 h3) (one_sim hps hm (callee_ok hps hm hF n) h1 h2 h4)
     ·exact one_sim hps hm (callee_ok hps hm hF n) h1 h2 h
   ·cases h
end
end Go.Vm
