/- The value machine, 15: what lies between the regions. -/
import Derived.Test.YtfjdfnegookkcaaGreatVmE
namespace Go.Vm
set_option linter.all false
theorem look_filter {α:Type} {s d:Nat}:∀ {l:List (Nat × α)},look s (l.filter fun p => !(p.1 == d)) = if s = d then none else look s l
 | [] => by simp [look]
 |(k,v) :: l => by
  rw [List.filter_cons,look_cons]
  by_cases hk:k = d
  ·subst hk
   simp only [beq_self_eq_true,Bool.not_true,Bool.false_eq_true,if_false]
   rw [look_filter]
   by_cases hs:s = k
   ·rw [if_pos hs,if_pos hs]
   ·rw [if_neg hs,if_neg hs,if_neg (fun e => hs e.symm)]
  ·have:(k == d) = false:=beq_eq_false_iff_ne.2 hk
   simp only [this,Bool.not_false,if_true]
   rw [look_cons,look_filter]
   by_cases hks:k = s
   ·subst hks
    rw [if_pos rfl,if_pos rfl,if_neg hk]
   ·rw [if_neg hks,if_neg hks]
theorem look_keepL {α:Type} {s:Nat} {v:α} {env:List (Nat × α)}:∀ {l:List Nat},look s (keepL env l) = some v → look s env = some v
 | [],h => by simp [keepL,look] at h
 | k :: l,h => by
   simp only [keepL] at h
   split at h
   ·rename_i u hu
    rw [look_cons] at h
    split at h
    ·rename_i e;subst e;cases h;exact hu
    ·exact look_keepL h
   ·exact look_keepL h
section
variable {P:Program} {E:Entry} {g g':Gh} {S S':St} {a:Act} {w w':World} {C:CallF}
theorem R.sub (hR:R E g S a w) (henv:∀ s v,look s S'.env = some v → look s S.env = some v) (hobj:∀ s v,look s S'.objs = some v → look s S.objs = some v)
  (htok:∀ s v,look s S'.toks = some v → look s S.toks = some v) (hglob:S'.glob = S.glob):R E g S' a w:=by
 have le:Le (S.cx g w) (S'.cx g w):=⟨Nat.le_refl _,fun _ _ _ _ h => h,fun _ _ => Nat.le_refl _,by simp [St.cx,hglob],fun _ _ => rfl⟩
 have hcx:∀ v x,XRel (S.cx g w) v x → XRel (S'.cx g w) v x:=fun v x hx =>
  XRel.mono le hx fun d => .inl ⟨rfl,rfl,fun k hk => ⟨k,htok d k hk,Nat.le_refl _,fun _ => ⟨rfl,fun _ _ => ⟨rfl,fun c _ h => ⟨c,h,rfl⟩⟩⟩⟩⟩
 refine ⟨fun s v hs => ?_,fun id cs ho => ?_,fun f k b hf hb => hR.toks f k b (htok f k hf) hb,hglob ▸ hR.glob,hR.defers,hR.tsz,hglob ▸ hR.same⟩
 ·obtain ⟨x,h1,h2⟩:=hR.env s v (henv s v hs)
  exact ⟨x,h1,hcx v x h2⟩
 ·obtain ⟨h1,h2,h3,c,e,h4,hcp,h5⟩:=hR.objs id cs (hobj id cs ho)
  refine ⟨h1,h2,h3,c,e,h4,hcp,fun j v hj => ?_⟩
  obtain ⟨h6,y,h7,h8⟩:=h5 j v hj
  exact ⟨h6,y,h7,hcx v y h8⟩
theorem R.keep (hR:R E g S a w) (k:Keep):R E g (S.keep k) a w :=
 hR.sub (fun _ _ h => look_keepL h) (fun _ _ h => look_keepL h) (fun _ _ h => look_keepL h) rfl
structure Less (S' S:St):Prop where
 env:∀ s v,look s S'.env = some v → look s S.env = some v
 objs:∀ s v,look s S'.objs = some v → look s S.objs = some v
 toks:∀ s v,look s S'.toks = some v → look s S.toks = some v
 glob:S'.glob = S.glob
theorem Less.refl (S:St):Less S S:=⟨fun _ _ h => h,fun _ _ h => h,fun _ _ h => h,rfl⟩
theorem Less.trans {S'':St} (h:Less S'' S') (k:Less S' S):Less S'' S:=⟨fun s v e => k.env s v (h.env s v e),fun s v e => k.objs s v (h.objs s v e),fun s v e => k.toks s v (h.toks s v e),h.glob.trans k.glob⟩
theorem Less.noMen {d:Nat} (h:Less S' S) (hn:S.noMen d):S'.noMen d where
 env:=fun s v e => hn.env s v (h.env s v e)
 objs:=fun s v e => hn.objs s v (h.objs s v e)
 obj:=by
  cases hl:look d S'.objs with
  | none => rfl
  | some cs => rw [← h.objs d cs hl];exact hn.obj
 tok:=by
  cases hl:look d S'.toks with
  | none => rfl
  | some k => rw [← h.toks d k hl];exact hn.tok
theorem clean_spec:∀ {ds:List Nat} {S S':St},S.clean ds = some S' → Less S' S ∧ ∀ d ∈ ds,S'.noMen d
 | [],S,S',h => by simp only [St.clean,Option.some.injEq] at h;subst h;exact ⟨.refl S,by simp⟩
 | d :: ds,S,S',h => by
   simp only [St.clean] at h
   cases hc:((S.env.filter fun p => !(p.1 == d)).all (fun p => !p.2.men d) && (S.objs.filter fun p => !(p.1 == d)).all (fun p => p.2.all fun v => !v.men0 d)) with
   | false => rw [hc] at h;cases h
   | true =>
     rw [hc] at h
     simp only [cond_true] at h
     simp only [Bool.and_eq_true,List.all_eq_true,Bool.not_eq_true'] at hc
     obtain ⟨h1,h2⟩:=clean_spec h
     have hless:Less ({ env:=S.env.filter fun p => !(p.1 == d),objs:=S.objs.filter fun p => !(p.1 == d),toks:=S.toks.filter fun p => !(p.1 == d),glob:=S.glob }:St) S:=by
      refine ⟨fun s v e => ?_,fun s v e => ?_,fun s v e => ?_,rfl⟩
      all_goals
       simp only [look_filter] at e
       split at e
       ·cases e
       ·exact e
     refine ⟨h1.trans hless,fun x hx => ?_⟩
     rcases List.mem_cons.1 hx with e | e
     ·subst e
      refine h1.noMen ⟨fun s v hs => ?_,fun id cs ho => ?_,?_,?_⟩
      ·exact hc.1 (s,v) (look_mem hs)
      ·exact fun v hv => by have:=hc.2 (id,cs) (look_mem ho);simp only [List.all_eq_true,Bool.not_eq_true'] at this;exact this v hv
      ·show look x (S.objs.filter _) = none;rw [look_filter,if_pos rfl]
      ·show look x (S.toks.filter _) = none;rw [look_filter,if_pos rfl]
     ·exact h2 x e
theorem R.less (hR:R E g S a w) (h:Less S' S):R E g S' a w:=hR.sub h.env h.objs h.toks h.glob
theorem ghost_norm (hR:R E g S a w) {s fam sz:Nat} (h:Ghost.run S (.norm s fam sz) = some S'):∃ g',R E g' S' a w:=by
 simp only [Ghost.run] at h
 split at h
 ·rename_i hs
  split at h
  ·rename_i S1 hc
   cases h
   obtain ⟨hl,hn⟩:=clean_spec hc
   have hless:Less ({ S with env:=S.env.filter fun p => !(p.1 == s) }:St) S:=by
    refine ⟨fun k v e => ?_,fun _ _ e => e,fun _ _ e => e,rfl⟩
    simp only [look_filter] at e
    split at e
    ·cases e
    ·exact e
   obtain ⟨x,hx,hr⟩:=hR.env s _ hs
   have:=rel_nils hr
   subst this
   obtain ⟨g',r1,r2,_⟩:=(hR.less (hl.trans hless)).newNil (hn fam (by simp))
   refine ⟨g',⟨fun k v hk => ?_,r1.objs,r1.toks,r1.glob,r1.defers,r1.tsz,r1.same⟩⟩
   rw [look_cons] at hk
   split at hk
   ·rename_i e
    subst e
    cases hk
    exact ⟨_,hx,r2 sz _ (.inl rfl)⟩
   ·exact r1.env k v hk
  ·cases h
 ·rename_i hs
  split at h
  ·rename_i S1 hc
   cases h
   obtain ⟨hl,hn⟩:=clean_spec hc
   have hless:Less ({ S with env:=S.env.filter fun p => !(p.1 == s) }:St) S:=by
    refine ⟨fun k v e => ?_,fun _ _ e => e,fun _ _ e => e,rfl⟩
    simp only [look_filter] at e
    split at e
    ·cases e
    ·exact e
   obtain ⟨x,hx,hr⟩:=hR.env s _ hs
   have hz:=rel_zed hr
   obtain ⟨g',r1,r2,_⟩:=(hR.less (hl.trans hless)).newNil (hn fam (by simp))
   refine ⟨g',⟨fun k v hk => ?_,r1.objs,r1.toks,r1.glob,r1.defers,r1.tsz,r1.same⟩⟩
   rw [look_cons] at hk
   split at hk
   ·rename_i e
    subst e
    cases hk
    exact ⟨_,hx,r2 sz _ hz⟩
   ·exact r1.env k v hk
  ·cases h
 ·cases h;exact ⟨g,hR⟩
theorem normCell_rel (hR:R E g S a w) {id off fam sz:Nat} (h:S.normCell id off fam sz = some S'):∃ g',R E g' S' a w:=by
 simp only [St.normCell] at h
 split at h
 ·rename_i cs hcs
  split at h
  ·rename_i hoff
   split at h
   ·rename_i S1 hc
    split at h
    ·rename_i cs1 hcs1
     cases h
     obtain ⟨hl,hn⟩:=clean_spec hc
     have hR1:=hR.less hl
     have hcs':cs1 = cs:=by
      have:=hl.objs id cs1 hcs1
      rw [hcs] at this
      exact (Option.some.inj this).symm
     subst hcs'
     obtain ⟨g',r1,r2,r3⟩:=hR1.newNil (hn fam (by simp))
     refine ⟨g',⟨r1.env,fun i cs' hi => ?_,r1.toks,r1.glob,r1.defers,r1.tsz,r1.same⟩⟩
     rw [look_cons] at hi
     split at hi
     ·rename_i e
      subst e
      cases hi
      obtain ⟨h1,h2,h3,c,e,h4,hcp,h5⟩:=r1.objs id cs1 hcs1
      refine ⟨h1,h2,h3,c,e,h4,hcp,fun j v hj => ?_⟩
      rw [List.getElem?_set] at hj
      split at hj
      ·rename_i ej
       subst ej
       split at hj
       ·cases hj
        obtain ⟨_,y,h7,h8⟩:=h5 off _ hoff
        refine ⟨rfl,y,h7,?_⟩
        exact r2 sz _ (.inl (rel_nils h8))
       ·cases hj
      ·exact h5 j v hj
     ·exact r1.objs i cs' hi
    ·cases h
   ·cases h
  ·cases h;exact ⟨g,hR⟩
 ·cases h;exact ⟨g,hR⟩
theorem ghost_normCell (hR:R E g S a w) {id off fam sz:Nat} (h:Ghost.run S (.normCell id off fam sz) = some S'):∃ g',R E g' S' a w:=normCell_rel hR h
theorem forget_rel {X:Cx} {fam:Nat} {v:V} {x:Value} (h:XRel X v x):XRel X (V.forget fam v) x:=by
 unfold V.forget
 split
 ·rename_i f n es
  cases f == fam with
  | false => exact h
  | true =>
    cases h with
    | plain h _ =>
      refine .plain ?_ (fun _ _ _ e => by cases e)
      cases h with
      | nil => exact .nil _ _
      | empty _ _ a cap => exact .empty _ _ a cap
      | slice _ _ _ b off cap zs hb hcap hrow hc hv hp hm => exact .slice _ _ _ b off cap zs hb hcap hrow hc hv hp hm
 ·exact h
theorem forget_cell {fam:Nat} {v:V} (h:v.isCell = true):(V.forget fam v).isCell = true:=by
 unfold V.forget
 split
 ·rename_i f n es;cases f == fam <;> rfl
 ·exact h
theorem ghost_normLast (hR:R E g S a w) {id back fam sz:Nat} (h:Ghost.run S (.normLast id back fam sz) = some S'):∃ g',R E g' S' a w:=by
 simp only [Ghost.run] at h
 split at h
 ·rename_i cs hcs
  split at h
  ·refine normCell_rel (g:=g) (S:={ S with objs:=(id,cs.map (V.forget fam)) :: S.objs.filter fun p => !(p.1 == id) }) ⟨hR.env,fun i cs' hi => ?_,hR.toks,hR.glob,hR.defers,hR.tsz,hR.same⟩ h
   have hi:look i ((id,cs.map (V.forget fam)) :: S.objs.filter fun p => !(p.1 == id)) = some cs':=hi
   rw [look_cons] at hi
   by_cases hid:id = i
   ·subst hid
    rw [if_pos rfl] at hi
    cases hi
    obtain ⟨h1,h2,h3,c,e,h4,hcp,h5⟩:=hR.objs id cs hcs
    refine ⟨h1,h2,h3,c,e,h4,hcp,fun j v hj => ?_⟩
    rw [List.getElem?_map] at hj
    cases hu:cs[j]? with
    | none => simp [hu] at hj
    | some u =>
      simp only [hu,Option.map_some,Option.some.injEq] at hj
      subst hj
      obtain ⟨q1,y,q2,q3⟩:=h5 j u hu
      exact ⟨forget_cell q1,y,q2,forget_rel q3⟩
   ·rw [if_neg hid,look_filter] at hi
    split at hi
    ·cases hi
    ·exact hR.objs i cs' hi
  ·cases h;exact ⟨g,hR⟩
 ·cases h;exact ⟨g,hR⟩
theorem look_map {α β:Type} {s:Nat} {f:α → β}:∀ {l:List (Nat × α)},look s (l.map fun p => (p.1,f p.2)) = (look s l).map f
 | [] => rfl
 |(k,v) :: l => by
  simp only [List.map_cons,look_cons]
  split
  ·rfl
  ·exact look_map
theorem ghost_ren (hR:R E g S a w) {i b:Nat} (h:Ghost.run S (.ren i b) = some S'):∃ g',R E g' S' a w:=by
 simp only [Ghost.run] at h
 split at h
 ·rename_i S1 hc
  obtain ⟨hl,hn⟩:=clean_spec hc
  have hR1:=hR.less hl
  have hn:=hn b (by simp)
  split at h
  ·rename_i cs hcs
   cases h
   obtain ⟨g',r1,r2,r3⟩:=hR1.moved hn hcs
   refine ⟨g',⟨fun s v hs => ?_,r1.objs,r1.toks,r1.glob,r1.defers,r1.tsz,r1.same⟩⟩
   have hs:look s (S1.env.map fun p => (p.1,V.ren i b p.2)) = some v:=hs
   rw [look_map] at hs
   cases hu:look s S1.env with
   | none => simp [hu] at hs
   | some u =>
     simp only [hu,Option.map_some,Option.some.injEq] at hs
     subst hs
     obtain ⟨x,hx,hr⟩:=hR1.env s u hu
     refine ⟨x,hx,?_⟩
     unfold V.ren
     split
     ·rename_i k sz n
      cases hk:k == i with
      | true =>
        have:=eq_of_beq hk
        subst this
        exact r2 _ _ _ hr
      | false => exact r3 _ _ hr (hn.env s _ hu)
     ·exact r3 _ _ hr (hn.env s _ hu)
  ·cases h;exact ⟨g,hR1⟩
 ·cases h
theorem R.frozen (hR:R E g S a w) {id off n:Nat} {sh:Sh} {es:List (List V)} {x:Value} (hr:XRel (S.cx g w) (.lref id off n) x) (hrows:S.objRows sh (.lref id off n) = some es) :
  ∃ g',R E g' { S with objs:=S.objs.filter fun p => !(p.1 == id) } a w ∧ XRel (S.cx g' w) (.slice none sh.length es) x ∧ ∀ v x,XRel (S.cx g w) v x → XRel (S.cx g' w) v x:=by
 obtain ⟨id',n',he,hlen,c,e,hh,hfit,hrr,how,hbase⟩:=objRows_rel hR hr hrows
 cases he
 let g':Gh:={ g with m:=upd g.m (g.κ id) c.size,ow:=upd g.ow (g.κ id) .none }
 have hm0:∃ cs,look id S.objs = some cs:=by
  unfold St.objRows at hrows
  simp only at hrows
  split at hrows
  ·rename_i cs h;exact ⟨cs,h⟩
  ·cases hrows
 obtain ⟨cs,hcs⟩:=hm0
 obtain ⟨_,_,hm,_⟩:=hR.objs id cs hcs
 have t:Touch E g S w g' S.toks S.glob.length w (g.κ id) none none :=
  {os:=rfl,tape:=rfl,output:=rfl,size:=Nat.le_refl _,heap:=fun _ _ _ => rfl,m:=fun b hb => upd_ne _ _ hb,ow:=fun b hb => upd_ne _ _ hb,κ:=fun _ _ => rfl,cp:=fun _ _ => rfl,τ:=fun _ _ => rfl,T:=fun _ _ => rfl,
   γ:=fun _ _ => rfl,nle:=Nat.le_refl _,γnew:=fun i a b => absurd a (by omega),fresh:=.inl hbase,cold:=fun p q _ e => by (have e:upd g.ow (g.κ id) .none (g.κ id) = .cell p q:=e);rw [upd_same] at e;exact nomatch e
   imm:=fun _ _ _ h => h,mle:=fun _ => by rw [hm];exact Nat.zero_le _ }
 have hk:∀ i,Keeps (S.cx g w) ⟨w.heap,g',S.glob.length,S.toks⟩ i:=fun i => t.keeps hR (fun e => by cases e) (fun e => by cases e) (fun _ e => by rw [how] at e;cases e)
 have hlt:g.κ id < w.heap.size:=by
  rcases Nat.lt_or_ge (g.κ id) w.heap.size with h | h
  ·exact h
  ·simp [Array.getElem?_eq_none h] at hh
 refine ⟨g',R.touched t hR rfl rfl (fun i => .inl (hk i)) (fun k v hkv => .inl hkv) (fun i cs' hi => ?_) (fun f k b hf hb => .inl ⟨(fun e => by cases e),fun _ e => by rw [how] at e;cases e⟩)
  (fun i o hi => .inl ⟨hi,fun _ => ⟨fun e => (by rw [how] at e;cases e),fun _ e => (by rw [how] at e;cases e)⟩⟩),?_,fun v x hx => hx.mono t.le fun i => .inl (hk i)⟩
 ·have hi:look i (S.objs.filter fun p => !(p.1 == id)) = some cs':=hi
  rw [look_filter] at hi
  split at hi
  ·cases hi
  ·rename_i hne
   exact .inl ⟨hi,(fun e => by cases e),fun _ e => hne (by rw [how] at e;cases e;rfl)⟩
 ·cases hr with
  | plain h _ => cases h
  | lref _ _ _ cap hcap _ =>
    rw [← hlen]
    refine .plain (vrel_of_block (m:=g'.m) (hrr.mono t.le) hlt (by omega) (fun j y hj => ?_) ?_ _) (fun _ _ _ e => by cases e)
    ·show cellAt w.heap (g.κ id) _ = _
     rw [cellAt_of hh]
     rw [List.getElem?_take] at hj
     split at hj
     ·simpa using hj
     ·cases hj
    ·show _ ≤ upd g.m (g.κ id) c.size (g.κ id)
     rw [upd_same,hlen,Nat.zero_add];exact hfit
theorem ghost_freeze (hR:R E g S a w) {s:Nat} {sh:Sh} (h:Ghost.run S (.freeze s sh) = some S'):∃ g',R E g' S' a w:=by
 simp only [Ghost.run] at h
 split at h
 ·rename_i id off n hs
  split at h
  ·rename_i es hrows
   cases h
   obtain ⟨x,hx,hr⟩:=hR.env s _ hs
   obtain ⟨g',r1,r2,_⟩:=hR.frozen hr hrows
   refine ⟨g',⟨fun k v hk => ?_,r1.objs,r1.toks,r1.glob,r1.defers,r1.tsz,r1.same⟩⟩
   rw [look_cons] at hk
   split at hk
   ·rename_i e
    subst e
    cases hk
    exact ⟨x,hx,r2⟩
   ·exact r1.env k v hk
  ·cases h
 ·cases h;exact ⟨g,hR⟩
theorem ghost_freezeCell (hR:R E g S a w) {id off:Nat} {sh:Sh} (h:Ghost.run S (.freezeCell id off sh) = some S'):∃ g',R E g' S' a w:=by
 simp only [Ghost.run] at h
 split at h
 ·rename_i cs hcs
  split at h
  ·rename_i i s n hoff
   split at h
   ·rename_i es hrows
    cases hii:i == id with
    | true => simp [hii] at h
    | false =>
      simp only [hii,cond_false] at h
      cases h
      have hne:id ≠ i:=fun e => by subst e;simp at hii
      obtain ⟨_,_,_,c,e,hh,_,hj⟩:=hR.objs id cs hcs
      obtain ⟨_,y,hy,hr⟩:=hj off _ hoff
      obtain ⟨g',r1,r2,r3⟩:=hR.frozen hr hrows
      have hcs1:look id (S.objs.filter fun p => !(p.1 == i)) = some cs:=by rw [look_filter,if_neg hne];exact hcs
      refine ⟨g',⟨r1.env,fun k cs' hk => ?_,r1.toks,r1.glob,r1.defers,r1.tsz,r1.same⟩⟩
      have hk:look k ((id,cs.set off (.slice none sh.length es)) :: (S.objs.filter fun p => !(p.1 == i)).filter fun p => !(p.1 == id)) = some cs':=hk
      rw [look_cons] at hk
      by_cases hik:id = k
      ·subst hik
       rw [if_pos rfl] at hk
       cases hk
       obtain ⟨h1,h2,h3,c',e',h4,hcp,h5⟩:=r1.objs id cs hcs1
       have hkk:g'.κ id = g.κ id:=by
        have:XRel (S.cx g w) (.lptr id 0) (.pointer (some ⟨g.κ id,0,none⟩)):=.lptr id 0
        have h6:=rel_lptr (r3 _ _ this)
        simp only [Value.pointer.injEq,Option.some.injEq,Addr.mk.injEq] at h6
        exact h6.1.symm
       have hcc:c' = c:=by
        rw [hkk,hh] at h4
        cases h4
        rfl
       subst hcc
       refine ⟨h1,h2,h3,c',e',h4,hcp,fun j v hjv => ?_⟩
       rw [List.getElem?_set] at hjv
       split at hjv
       ·rename_i ej
        subst ej
        split at hjv
        ·cases hjv
         exact ⟨rfl,y,hy,r2⟩
        ·cases hjv
       ·exact h5 j v hjv
      ·rw [if_neg hik,look_filter] at hk
       split at hk
       ·cases hk
       ·exact r1.objs k cs' hk
   ·cases h
  ·cases h;exact ⟨g,hR⟩
 ·cases h;exact ⟨g,hR⟩
end
end Go.Vm
