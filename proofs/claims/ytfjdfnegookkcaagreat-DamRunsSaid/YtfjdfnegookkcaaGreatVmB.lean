/- The value machine, 11: names do not come from nowhere. -/
import Derived.Test.YtfjdfnegookkcaaGreatVmA
namespace Go.Vm
set_option linter.all false
def V.bare0:V → Bool
 | .int .. | .bool .. | .str .. | .nils | .nilptr | .nilfn | .nilmap | .fn .. | .slice none _ [] => true
 | _ => false
def V.bare:V → Bool
 | .agg cs => cs.all V.bare0
 | v => v.bare0
def Opd.clean:Opd → Bool
 | .t _ => true
 | .c v => v.bare
def VO.clean:VO → Bool
 | .mv x | .box _ x | .gbox _ x | .load _ _ x | .nilchk x | .un _ x | .conv _ x | .faddr _ x | .field _ _ x | .len x | .slen x | .ext x _ => x.clean
 | .wrt _ _ _ x => x.clean
 | .gtake _ x | .isnil _ x => x.clean
 | .zlit _ => true
 | .lcall f args _ => f.clean && args.all fun p => p.2.2.clean
 | .gput _ x y => x.clean && y.clean
 | .pick a b c => a.clean && b.clean && c.clean
 | .obj _ cs => cs.all V.bare0
 | .galloc _ _ | .mkmap => true
 | .mapget _ _ zero _ x k => zero.bare && x.clean && k.clean
 | .mapset _ _ _ x k y => x.clean && k.clean && y.clean
 | .build zero ps => zero.all V.bare0 && ps.all fun p => p.2.2.clean
 | .lit _ _ _ _ ps => ps.all fun p => p.2.clean
 | .mm3 _ x y z => x.clean && y.clean && z.clean
 | .store _ _ x y | .bin _ x y | .beq _ x y | .aeq _ _ x y | .iaddr _ _ x y | .idx _ _ _ x y | .app _ _ _ _ x y | .appo _ _ _ x y | .mm _ x y => x.clean && y.clean
 | .call _ f args _ | .own f args _ _ | .rcall f args => f.clean && args.all fun p => p.2.clean
 | .mkobj _ zero x => x.clean && zero.all V.bare0
 | .slc _ x lo hi => x.clean && (lo.all Opd.clean) && (hi.all Opd.clean)
 | .mkfn _ cap => cap.all Opd.clean
theorem bare0_men0 {v:V} (h:v.bare0 = true) (d:Nat):v.men0 d = false:=by
 cases v <;> simp_all [V.bare0,V.men0]
 rename_i t _ _
 cases t <;> simp_all [V.bare0,V.men0]
theorem bare_men {v:V} (h:v.bare = true) (d:Nat):v.men d = false:=by
 cases v with
 | agg cs =>
   simp only [V.bare,List.all_eq_true] at h
   simp only [V.men,V.men1,List.any_eq_false]
   exact fun x hx => by simp [bare0_men0 (h x hx) d]
 | _ => apply men_of_men0;apply bare0_men0;exact h
theorem men0_of {v:V} {d:Nat} (hc:v.isCell = true) (h:v.men d = false):v.men0 d = false:=by
 cases v <;> simp_all [V.isCell,V.men,V.men1,V.men0]
section
variable {P:Program} {E:Entry} {g g':Gh} {S S':St} {a:Act} {w w':World} {d:Nat}
theorem ev_men (hn:S.noMen d) {x:Opd} (hc:x.clean = true) {v:V} (hv:S.ev x = some v):v.men d = false:=by
 cases x with
 | t s => exact hn.env s v hv
 | c u => simp only [St.ev,Option.some.injEq] at hv;subst hv;exact bare_men hc d
theorem noMen_put (hn:S.noMen d) {dst:Option Nat} {v:V} (hv:v.men d = false):(S.put dst v).noMen d:=by
 cases dst with
 | none => exact hn
 | some k =>
   refine ⟨fun s u hs => ?_,hn.objs,hn.obj,hn.tok⟩
   rw [put_some,look_cons] at hs
   split at hs
   ·cases hs;exact hv
   ·exact hn.env s u hs
theorem noMen_obj (hn:S.noMen d) {id:Nat} (hne:id ≠ d) {cs:List V} (hc:∀ v ∈ cs,v.men0 d = false):({ S with objs:=(id,cs) :: S.objs }:St).noMen d:=by
 refine ⟨hn.env,fun i cs' hi => ?_,?_,hn.tok⟩
 ·rw [look_cons] at hi
  split at hi
  ·cases hi;exact hc
  ·exact hn.objs i cs' hi
 ·rw [look_cons,if_neg hne];exact hn.obj
theorem noMen_tok (hn:S.noMen d) {f k:Nat} (hne:f ≠ d):({ S with toks:=(f,k) :: S.toks }:St).noMen d :=
 ⟨hn.env,hn.objs,hn.obj,by rw [look_cons,if_neg hne];exact hn.tok⟩
theorem noMen_glob (hn:S.noMen d) {G:List GObj}:({ S with glob:=G }:St).noMen d:=⟨hn.env,hn.objs,hn.obj,hn.tok⟩
theorem cells_men0 {v:V} (h:v.men d = false) (hc:∀ u ∈ v.cells,u.isCell = true):∀ u ∈ v.cells,u.men0 d = false:=fun u hu => men0_of (hc u hu) (men_cells h u hu)
theorem loadAt_men {sz:Option Nat} {cs:List V} {off:Nat} {v:V} (h:loadAt sz cs off = some v) (hc:∀ u ∈ cs,u.men0 d = false):v.men d = false:=by
 unfold loadAt at h
 split at h
 ·exact men_of_men0 (hc v (List.mem_of_getElem? h))
 ·rename_i n
  cases hb:Nat.ble (off + n) cs.length with
  | false => simp [hb] at h
  | true =>
    simp only [hb,cond_true,Option.some.injEq] at h
    subst h
    simp only [V.men,V.men1,List.any_eq_false]
    exact fun u hu => by simp [hc u (List.mem_of_mem_drop (List.mem_of_mem_take hu))]
theorem plain_men0 {v:V} (h:v.plain = true):v.men0 d = false:=by
 cases v <;> simp_all [V.plain,V.men0]
 rename_i t _ _
 cases t <;> simp_all [V.plain,V.men0]
theorem cellsAt_men (hR:R E g S a w) (hn:S.noMen d) {p:V} {x:Value} (hr:XRel (S.cx g w) p x) {cs:List V} {off:Nat} (hc:S.cellsAt p = some (cs,off)):∀ u ∈ cs,u.men0 d = false:=by
 unfold St.cellsAt at hc
 split at hc
 ·split at hc
  ·rename_i i f q cs' ho
   cases hc
   exact hn.objs i _ ho
  ·cases hc
 ·split at hc
  ·rename_i i f q cs' ho
   cases hc
   obtain ⟨_,hm,c,et,hh,hl,hj⟩:=hR.glob i _ ho
   intro u hu
   obtain ⟨j,hj'⟩:=List.mem_iff_getElem?.1 hu
   have hlt:j < c.size:=by rw [← hl];exact lt_of_get? hj'
   obtain ⟨h1,h2,_⟩:=hj j u c[j] hj' (by simp [hlt])
   exact men0_of h1 (h2 d)
  ·cases hc
 ·cases hc
  cases hr with
  | plain h _ => cases h
  | eptr row _ b o ys hb h1 h2 hp hm =>
    intro u hu
    obtain ⟨j,hj'⟩:=List.mem_iff_getElem?.1 hu
    exact plain_men0 (hp j u hj')
 ·cases hc
theorem setAll_mem {cs vs:List V} {off:Nat} {u:V} (h:u ∈ setAll cs off vs):u ∈ cs ∨ u ∈ vs:=by
 obtain ⟨j,hj⟩:=List.mem_iff_getElem?.1 h
 rw [setAll_get] at hj
 split at hj
 ·exact .inr (List.mem_of_getElem? hj)
 ·exact .inl (List.mem_of_getElem? hj)
theorem fillParts_men (hn:S.noMen d):∀ {ps:List (Nat × Nat × Opd)} {cs cs':List V},(∀ p ∈ ps,p.2.2.clean = true) → fillParts S ps cs = some cs' → (∀ u ∈ cs,u.men0 d = false) → ∀ u ∈ cs',u.men0 d = false
 | [],cs,cs',_,h,hc => by simp only [fillParts,Option.some.injEq] at h;subst h;exact hc
 |(off,n,x) :: ps,cs,cs',hcl,h,hc => by
  simp only [fillParts] at h
  split at h
  ·rename_i v hv
   cases hb:(v.cells.length == n && Nat.ble (off + n) cs.length && v.cells.all V.isCell) with
   | false => simp [hb] at h
   | true =>
     simp only [hb,cond_true] at h
     simp only [Bool.and_eq_true,List.all_eq_true] at hb
     refine fillParts_men hn (fun p hp => hcl p (List.mem_cons_of_mem _ hp)) h (fun u hu => ?_)
     rcases setAll_mem hu with h1 | h1
     ·exact hc u h1
     ·exact cells_men0 (ev_men hn (hcl (off,n,x) List.mem_cons_self) hv) hb.2 u h1
  ·cases h
theorem ev_cellsAt_men (hR:R E g S a w) (hn:S.noMen d) {x:Opd} (hcl:x.clean = true) {p:V} (hv:S.ev x = some p) {cs:List V} {off:Nat} (hc:S.cellsAt p = some (cs,off)):∀ u ∈ cs,u.men0 d = false:=by
 cases x with
 | t s =>
   obtain ⟨y,_,hr⟩:=hR.env s p hv
   exact cellsAt_men hR hn hr hc
 | c v =>
   simp only [St.ev,Option.some.injEq] at hv
   subst hv
   cases v <;> simp_all [Opd.clean,V.bare,V.bare0,St.cellsAt]
theorem recv_men {r:V} (h:∀ d,(stripAll r).men d = false) {reg:List (Nat × Nat)} {d:Nat} (hd:d ∉ regsOf reg):(recv reg r).1.men d = false ∧ look d (recv reg r).2 = none:=by
 rw [recv_eq]
 have hd':∀ p f,look p reg = some f → (f == d) = false:=fun p f hp => by
  simp only [beq_eq_false_iff_ne,ne_eq]
  intro e
  subst e
  exact hd (List.mem_map.2 ⟨_,look_mem hp,rfl⟩)
 have hcase:∀ u ∈ (recvL reg 0 r.comps).1,(∃ n es f,u = .slice (some f) n es ∧ (f == d) = false) ∨ ∃ v ∈ r.comps,u = strip v:=fun u hu => by
  obtain ⟨k,hk⟩:=List.mem_iff_getElem?.1 hu
  obtain ⟨v,hv,hc⟩:=recvL_get reg _ 0 k u hk
  rcases hc with ⟨t,n,es,f,rfl,h2,rfl⟩ | rfl
  ·exact .inl ⟨n,es,f,rfl,hd' _ f h2⟩
  ·exact .inr ⟨v,List.mem_of_getElem? hv,rfl⟩
 refine ⟨?_,?_⟩
 ·have hs:=h d
  unfold stripAll at hs
  have single:r.comps = [r] → (∀ us,rebuild r us = us.headD .undef) → (rebuild r (recvL reg 0 r.comps).1).men d = false:=fun e1 e3 => by
   rw [e3] at hs ⊢
   rw [e1] at hs hcase ⊢
   have hl1:(recvL reg 0 [r]).1.length = 1:=recvL_len reg [r] 0
   match hrl:(recvL reg 0 [r]).1,hl1 with
   | [u],_ =>
     rw [hrl] at hcase
     rcases hcase u List.mem_cons_self with ⟨n,es,f,rfl,hf⟩ | ⟨v,hv,rfl⟩
     ·exact hf
     ·simp only [List.mem_singleton] at hv
      subst hv
      exact hs
  cases r with
  | tuple vs =>
    simp only [rebuild,V.men,V.comps,List.any_eq_false,List.mem_map] at hs ⊢
    intro u hu
    rcases hcase u hu with ⟨n,es,f,rfl,hf⟩ | ⟨v,hv,rfl⟩
    ·simp [V.men1,V.men0,hf]
    ·exact hs (strip v) ⟨v,hv,rfl⟩
  | agg vs =>
    simp only [rebuild,V.men,V.men1,V.comps,List.any_eq_false,List.mem_map] at hs ⊢
    intro u hu
    rcases hcase u hu with ⟨n,es,f,rfl,hf⟩ | ⟨v,hv,rfl⟩
    ·simp [V.men0,hf]
    ·exact hs (strip v) ⟨v,hv,rfl⟩
  | _ => exact single rfl (fun _ => rfl)
 ·cases hl:look d (recvL reg 0 r.comps).2 with
  | none => rfl
  | some k =>
    obtain ⟨p,t,n,es,_,h2,_⟩:=recvL_tok reg _ 0 d k (look_mem hl)
    exact absurd (List.mem_map.2 ⟨_,look_mem h2,rfl⟩) hd
theorem shed_men {v:V} (h:v.men d = false):v.shed.men d = false:=by
 have h0:∀ u:V,u.men0 d = false → u.shed0.men0 d = false:=fun u hu => by
  cases u <;> first | exact hu | rfl
 cases v with
 | agg cs =>
   simp only [V.shed,V.men,V.men1,List.any_eq_false,List.mem_map,forall_exists_index,and_imp,forall_apply_eq_imp_iff₂] at h ⊢
   intro u hu
   have:=h0 u (by simpa using h u hu)
   simp [this]
 | oslice => rfl
 | _ => exact h
theorem op_noMen {vo:VO} {C:CallF} {dst:Option Nat} (hcl:vo.clean = true)
  (hC:∀ f args G r G',C f args G = some (r,G') → ∀ d,(stripAll r).men d = false)
  (hR:R E g S a w) (hn:S.noMen d) (hd:d ∉ vo.names) (hrun:VO.run C dst S vo = some S'):S'.noMen d:=by
 cases vo with
 | mv x =>
   simp only [VO.run] at hrun
   split at hrun
   ·rename_i v hv;cases hrun;exact noMen_put hn (ev_men hn hcl hv)
   ·cases hrun
 | pick c p q =>
   simp only [VO.clean,Bool.and_eq_true] at hcl
   simp only [VO.run] at hrun
   split at hrun
   ·rename_i t ht
    split at hrun
    ·rename_i v hv
     cases hrun
     cases t
     ·exact noMen_put hn (ev_men hn hcl.2 hv)
     ·exact noMen_put hn (ev_men hn hcl.1.2 hv)
    ·cases hrun
   ·cases hrun
 | obj id cells =>
   simp only [VO.clean,List.all_eq_true] at hcl
   simp only [VO.names,List.mem_singleton] at hd
   simp only [VO.run] at hrun
   cases hrun
   exact noMen_put (noMen_obj hn (fun e => hd e.symm) fun v hv => bare0_men0 (hcl v hv) d) (by simp [V.men,V.men1,V.men0];exact fun e => hd e.symm)
 | box id x =>
   simp only [VO.names,List.mem_singleton] at hd
   simp only [VO.run] at hrun
   split at hrun
   ·rename_i v hv
    cases hc:v.cells.all V.isCell with
    | false => simp [hc] at hrun
    | true =>
      simp only [hc,cond_true] at hrun
      simp only [List.all_eq_true] at hc
      cases hrun
      exact noMen_put (noMen_obj hn (fun e => hd e.symm) (cells_men0 (ev_men hn hcl hv) hc)) (by simp [V.men,V.men1,V.men0];exact fun e => hd e.symm)
   ·cases hrun
 | gbox sh x =>
   simp only [VO.run] at hrun
   split at hrun
   ·split at hrun
    ·cases hrun;exact noMen_put (noMen_glob hn) rfl
    ·cases hrun
   ·cases hrun
 | galloc sh zero =>
   simp only [VO.run] at hrun
   split at hrun
   ·cases hrun;exact noMen_put (noMen_glob hn) rfl
   ·cases hrun
 | mkmap =>
   simp only [VO.run] at hrun
   cases hrun;exact noMen_put (noMen_glob hn) rfl
 | mapget ag ks zero ok x k =>
   simp only [VO.clean,Bool.and_eq_true] at hcl
   simp only [VO.run] at hrun
   split at hrun
   ·rename_i i kv hx hkv
    split at hrun
    ·rename_i es b hes hb
     have men2:∀ v b,(∀ d,v.men d = false) → v.men1 d = false → (bif ok then V.tuple [v,.bool b] else v).men d = false:=fun v b hv hc => by
      cases ok
      ·exact hv d
      ·simp only [cond_true,V.men,List.any_cons,List.any_nil,Bool.or_false,Bool.or_eq_false_iff]
       exact ⟨hc,rfl⟩
     split at hrun
     ·rename_i j v hf
      cases hrun
      have hmem:∀ (es:List (V × V)) i,mfind ag ks kv es i = some (some (j,v)) → ∃ q,(q,v) ∈ es:=by
       intro es
       induction es with
       | nil => intro i h;simp [mfind] at h
       | cons p es ih =>
         obtain ⟨q,u⟩:=p
         intro i h
         simp only [mfind] at h
         split at h
         ·simp at h;obtain ⟨_,rfl⟩:=h;exact ⟨q,by simp⟩
         ·obtain ⟨q',h'⟩:=ih _ h;exact ⟨q',by simp [h']⟩
         ·cases h
      obtain ⟨q,hq⟩:=hmem es 0 hf
      obtain ⟨n,hnn⟩:=List.mem_iff_getElem?.1 hq
      obtain ⟨_,_,c,ck,hh,hl,_,hj⟩:=glob_map hR hes
      have hlt:=lt_of_get? hnn
      obtain ⟨_,hv,_,_⟩:=hj n (q,v) c[n] hnn (by simp)
      exact noMen_put hn (men2 _ _ (fun d => men_of_men1 (hv d)) (hv d))
     ·cases hrun
      refine noMen_put hn (men2 _ _ (fun d => bare_men hcl.1.1 d) ?_)
      have:=bare_men hcl.1.1 d
      have hb0:=hcl.1.1
      cases zero <;> first | (simpa [V.men] using this) | simp [V.bare,V.bare0] at hb0
     ·cases hrun
    ·cases hrun
   ·cases hrun
 | mapset ag ks sh x k y =>
   simp only [VO.run] at hrun
   split at hrun
   ·split at hrun
    ·split at hrun
     ·cases hrun;exact noMen_glob hn
     ·cases hrun;exact noMen_glob hn
     ·cases hrun
    ·cases hrun
   ·cases hrun
 | build zero ps =>
   simp only [VO.clean,Bool.and_eq_true,List.all_eq_true] at hcl
   simp only [VO.run] at hrun
   split at hrun
   ·rename_i cs hf
    cases hrun
    refine noMen_put hn ?_
    have:=fillParts_men hn hcl.2 hf (fun u hu => bare0_men0 (hcl.1 u hu) d)
    simp only [V.men,V.men1,List.any_eq_false]
    exact fun u hu => by simp [this u hu]
   ·cases hrun
 | lit tok sh zero len ps =>
   simp only [VO.run] at hrun
   split at hrun
   ·split at hrun
    ·rename_i f
     simp only [VO.names,List.mem_singleton] at hd
     cases hrun
     exact noMen_put (noMen_tok hn (fun e => hd e.symm)) (by simp [V.men,V.men1,V.men0];exact fun e => hd e.symm)
    ·cases hrun;exact noMen_put hn rfl
   ·cases hrun
 | load root sz x =>
   simp only [VO.run] at hrun
   split at hrun
   ·rename_i u hu
    cases hfit:root.fits u with
    | false => simp [hfit] at hrun
    | true =>
      simp only [hfit,cond_true] at hrun
      split at hrun
      ·rename_i cs off hc
       split at hrun
       ·rename_i v hv
        cases hrun
        refine noMen_put hn ?_
        have:=loadAt_men hv (ev_cellsAt_men hR hn hcl hu hc)
        cases root
        ·exact this
        ·exact shed_men this
        ·exact this
       ·cases hrun
      ·cases hrun
   ·cases hrun
 | store root sh x y =>
   simp only [VO.clean,Bool.and_eq_true] at hcl
   simp only [VO.run] at hrun
   cases hfit:S.fits root x with
   | false => simp [hfit] at hrun
   | true =>
   simp only [hfit,cond_true] at hrun
   split at hrun
   ·rename_i id off v hx hy
    split at hrun
    ·rename_i cs ho
     cases hc:(v.cells.length == sh.length && Nat.ble (off + sh.length) cs.length && v.cells.all V.isCell) with
     | false => simp [hc] at hrun
     | true =>
       simp only [hc,cond_true] at hrun
       simp only [Bool.and_eq_true,List.all_eq_true] at hc
       cases hrun
       have hid:id ≠ d:=fun e => by have:=ev_men hn hcl.1 hx;simp [V.men,V.men1,V.men0,e] at this
       refine noMen_obj hn hid fun u hu => ?_
       rcases setAll_mem hu with h | h
       ·exact hn.objs id cs ho u h
       ·exact cells_men0 (ev_men hn hcl.2 hy) hc.2 u h
    ·cases hrun
   ·rename_i i off v hx hy
    split at hrun
    ·rename_i cs ho
     split at hrun
     ·rename_i vs hg
      cases hc:Nat.ble (off + vs.length) cs.length with
      | false => simp [hc] at hrun
      | true => simp only [hc,cond_true] at hrun;cases hrun;exact noMen_glob hn
     ·cases hrun
    ·cases hrun
   ·cases hrun
 | zlit n =>
   simp only [VO.run] at hrun
   cases hrun
   exact noMen_put hn rfl
 | lcall f args ids =>
   simp only [VO.run] at hrun
   split at hrun
   ·split at hrun
    ·rename_i r G' hc
     cases hs:r.scal with
     | false => rw [hs] at hrun;cases hrun
     | true =>
       rw [hs] at hrun
       cases hrun
       have h0:∀ v:V,v.sc = true → v.men0 d = false ∧ v.men1 d = false ∧ v.men d = false:=fun v hv => by
        cases v <;> simp [V.sc] at hv <;> exact ⟨rfl,rfl,rfl⟩
       refine noMen_put hn ?_
       cases r with
       | tuple vs =>
         simp only [V.scal,List.all_eq_true] at hs
         simp only [V.men,List.any_eq_false]
         exact fun v hv => by simp [(h0 v (hs v hv)).2.1]
       | agg vs =>
         simp only [V.scal,List.all_eq_true] at hs
         simp only [V.men,V.men1,List.any_eq_false]
         exact fun v hv => by simp [(h0 v (hs v hv)).1]
       | _ => refine (h0 _ ?_).2.2;exact hs
    ·cases hrun
   ·cases hrun
 | isnil neg x =>
   simp only [VO.run] at hrun
   split at hrun <;> first | (cases hrun;done) | (cases hrun;exact noMen_put hn rfl)
 | gtake fam x =>
   simp only [VO.names,List.mem_singleton] at hd
   simp only [VO.run] at hrun
   split at hrun
   ·rename_i u hu
    split at hrun
    ·rename_i v ts G ht
     cases hrun
     unfold St.take at ht
     split at ht
     ·rename_i id off
      split at ht
      ·rename_i cs ho
       split at ht
       ·cases ht
        exact noMen_put (noMen_glob (noMen_tok hn (fun e => hd e.symm))) (by simp [V.men,V.men1,V.men0];exact fun e => hd e.symm)
       ·rename_i z _ hz
        cases ht
        have hm:=ev_cellsAt_men (off:=off) hR hn hcl hu (cs:=cs) (by simp [St.cellsAt,ho])
        exact noMen_put (S:={ S with toks:=[] ++ S.toks,glob:=S.glob }) ⟨hn.env,hn.objs,hn.obj,hn.tok⟩ (shed_men (men_of_men0 (hm z (List.mem_of_getElem? hz))))
       ·cases ht
      ·cases ht
     ·cases ht
    ·cases hrun
   ·cases hrun
 | gput fam x y =>
   simp only [VO.run] at hrun
   split at hrun
   ·split at hrun
    ·rename_i ts G hg
     cases hrun
     unfold St.give at hg
     split at hg
     ·rename_i id off f n es
      split at hg
      ·rename_i k _ hk
       have hne:fam ≠ d:=fun e => by
        rw [e,hn.tok] at hk
        generalize (_ == d) = q at hk
        cases q <;> cases hk
       rcases Bool.eq_false_or_eq_true (k == _ && Nat.blt _ _) with hc | hc
       ·rw [hc] at hg
        cases hg
        exact noMen_glob (noMen_tok hn hne)
       ·rw [hc] at hg;cases hg
      ·cases hg
     ·cases hg
    ·cases hrun
   ·cases hrun
 | nilchk x =>
   simp only [VO.run] at hrun
   split at hrun <;> first | (cases hrun;done) | skip
   all_goals
    rename_i hv
    cases hrun
    exact noMen_put hn (ev_men hn hcl hv)
 | bin op x y =>
   simp only [VO.run] at hrun
   split at hrun
   ·split at hrun
    ·rename_i v hv
     cases hrun
     refine noMen_put hn ?_
     unfold V.bin at hv
     split at hv
     ·rename_i k m k' n _ _
      cases hk:decide (k = k') with
      | false => simp [hk] at hv
      | true =>
        simp only [hk,cond_true] at hv
        unfold intBin at hv
        split at hv <;> (try split at hv) <;> cases hv <;> rfl
     ·cases hv
    ·cases hrun
   ·cases hrun
 | beq neg x y =>
   simp only [VO.run] at hrun
   split at hrun
   ·cases hrun;exact noMen_put hn rfl
   ·cases hrun
 | aeq neg ks x y =>
   simp only [VO.run] at hrun
   split at hrun
   ·split at hrun
    ·rename_i v hv
     cases hrun
     refine noMen_put hn ?_
     unfold V.aeq at hv
     split at hv
     ·rename_i cs ds _ _
      cases hc:(cs.length == ks.length && ds.length == ks.length) with
      | false => simp [hc] at hv
      | true =>
        simp only [hc,cond_true] at hv
        split at hv <;> cases hv <;> rfl
     ·cases hv
    ·cases hrun
   ·cases hrun
 | un op x =>
   simp only [VO.run] at hrun
   split at hrun
   ·split at hrun
    ·rename_i v hv
     cases hrun
     refine noMen_put hn ?_
     unfold V.un at hv
     split at hv <;> (try split at hv) <;> cases hv <;> rfl
    ·cases hrun
   ·cases hrun
 | conv k x =>
   simp only [VO.run] at hrun
   split at hrun
   ·cases hrun;exact noMen_put hn rfl
   ·cases hrun
 | faddr off x =>
   simp only [VO.run] at hrun
   split at hrun <;> first | (cases hrun;done) | skip
   all_goals
    rename_i hv
    have:=ev_men hn hcl hv
    cases hrun
    exact noMen_put hn this
 | iaddr arr sz x i =>
   simp only [VO.clean,Bool.and_eq_true] at hcl
   cases arr with
   | some n =>
     simp only [VO.run] at hrun
     split at hrun
     ·rename_i u k m hu hm
      cases hc:(decide (0 ≤ m) && decide (m < (n:Int))) with
      | false => simp [hc] at hrun
      | true =>
        simp only [hc,cond_true] at hrun
        have:=ev_men hn hcl.1 hu
        split at hrun <;> first | (cases hrun;done) | skip
        all_goals
         cases hrun
         exact noMen_put hn this
     ·cases hrun
   | none =>
     simp only [VO.run] at hrun
     split at hrun
     ·rename_i tk m es k z hu hm
      cases hc:(decide (0 ≤ z) && (m == sz)) with
      | false => simp [hc] at hrun
      | true =>
        simp only [hc,cond_true] at hrun
        split at hrun
        ·cases hrun;exact noMen_put hn rfl
        ·cases hrun
     ·rename_i id off len k z hu hm
      cases hc:(decide (0 ≤ z) && decide (z < (len:Int)) && (off == sz)) with
      | false => simp [hc] at hrun
      | true =>
        simp only [hc,cond_true] at hrun
        have:=ev_men hn hcl.1 hu
        cases hrun
        exact noMen_put hn this
     ·cases hrun
 | idx n sz ag x i =>
   simp only [VO.clean,Bool.and_eq_true] at hcl
   simp only [VO.run] at hrun
   split at hrun
   ·rename_i cs k m hu hm
    cases hc:(decide (0 ≤ m) && decide (m < (n:Int))) with
    | false => simp [hc] at hrun
    | true =>
      simp only [hc,cond_true] at hrun
      split at hrun
      ·rename_i v hv
       cases hrun
       have:=ev_men hn hcl.1 hu
       simp only [V.men,V.men1,List.any_eq_false] at this
       exact noMen_put hn (loadAt_men hv fun u hu => by simpa using this u hu)
      ·cases hrun
   ·cases hrun
 | field off sz x =>
   simp only [VO.run] at hrun
   split at hrun
   ·rename_i cs hu
    split at hrun
    ·rename_i v hv
     cases hrun
     have:=ev_men hn hcl hu
     simp only [V.men,V.men1,List.any_eq_false] at this
     exact noMen_put hn (loadAt_men hv fun u hu => by simpa using this u hu)
    ·cases hrun
   ·cases hrun
 | len x =>
   simp only [VO.run] at hrun
   split at hrun <;> first | (cases hrun;done) | (cases hrun;exact noMen_put hn rfl)
 | slen x =>
   simp only [VO.run] at hrun
   split at hrun <;> first | (cases hrun;done) | (cases hrun;exact noMen_put hn rfl)
 | app fam src sh mx x y =>
   simp only [VO.clean,Bool.and_eq_true] at hcl
   simp only [VO.names,List.mem_singleton] at hd
   simp only [VO.run] at hrun
   split at hrun
   ·split at hrun
    ·rename_i ys hy
     cases hc:Nat.ble ys.length mx with
     | false => simp [hc] at hrun
     | true =>
       simp only [hc,cond_true] at hrun
       cases hrun
       exact noMen_put (noMen_tok hn (fun e => hd e.symm)) (by simp [V.men,V.men1,V.men0];exact fun e => hd e.symm)
    ·cases hrun
   ·split at hrun
    ·rename_i ys hy
     cases hc:Nat.ble ys.length mx with
     | false => simp [hc] at hrun
     | true =>
       simp only [hc,cond_true] at hrun
       cases hrun
       exact noMen_put (noMen_tok hn (fun e => hd e.symm)) (by simp [V.men,V.men1,V.men0];exact fun e => hd e.symm)
    ·cases hrun
   ·rename_i f n es v hx hy
    have hf:(f == d) = false:=by have:=ev_men hn hcl.1 hx;simpa [V.men,V.men1,V.men0] using this
    split at hrun
    ·rename_i ys hy
     split at hrun
     ·rename_i k hk
      cases hc:(k == es.length && (n == sh.length) && Nat.ble (es.length + ys.length) mx) with
      | false => simp [hc] at hrun
      | true =>
        simp only [hc,cond_true] at hrun
        cases hrun
        exact noMen_put (noMen_tok hn (by simpa using hf)) (by simp only [V.men,V.men1,V.men0];exact hf)
     ·cases hrun
    ·cases hrun
   ·cases hrun
 | appo nw src sh x y =>
   simp only [VO.clean,Bool.and_eq_true] at hcl
   simp only [VO.names,List.mem_singleton] at hd
   have hfl:∀ {v:V} {ys:List (List V)},S.ev y = some v → S.rows sh v = some ys → ∀ u ∈ ys.flatten,u.men0 d = false:=fun {v ys} hv hys u hu => by
    have hsl:∀ {x:Value},XRel (S.cx g w) v x → u.men0 d = false:=fun {x} hr => by
     rcases rows_rel hR hr hys with ⟨rfl,_⟩ | ⟨b,off,cap,l,_,_,_,hl⟩
     ·simp at hu
     ·obtain ⟨j,hj⟩:=List.mem_iff_getElem?.1 hu
      exact plain_men ((rows_flat hl).2 j u hj).1
    cases y with
    | t s =>
      obtain ⟨x,_,hr⟩:=hR.env s v hv
      exact hsl hr
    | c c =>
      simp only [St.ev,Option.some.injEq] at hv
      subst hv
      cases c with
      | nils => simp [St.rows] at hys;subst hys;simp at hu
      | slice t n es =>
        have:es = []:=by
         have h:=hcl.2
         simp only [Opd.clean,V.bare] at h
         cases t with
         | none => cases es with
           | nil => rfl
           | cons _ _ => simp [V.bare0] at h
         | some _ => simp [V.bare0] at h
        subst this
        simp only [St.rows] at hys
        cases hnn:n == sh.length with
        | false => simp [hnn] at hys
        | true => simp only [hnn,cond_true,Option.some.injEq] at hys;subst hys;simp at hu
      | zed n => simp [St.rows] at hys;subst hys;simp at hu
      | nonil n => simp [St.rows] at hys;subst hys;simp at hu
      | _ => simp [St.rows] at hys
   simp only [VO.run] at hrun
   split at hrun
   ·rename_i v hx hy
    split at hrun
    ·rename_i ys hys
     cases he:ys.isEmpty with
     | true => simp only [he,cond_true] at hrun;cases hrun;exact noMen_put hn rfl
     | false =>
       simp only [he,cond_false] at hrun
       cases hc:Nat.ble ys.length lim with
       | false => simp [hc] at hrun
       | true =>
         simp only [hc,cond_true] at hrun
         cases hrun
         exact noMen_put (noMen_obj hn (fun e => hd e.symm) (hfl hy hys)) (by simp [V.men,V.men1,V.men0];exact fun e => hd e.symm)
    ·cases hrun
   ·rename_i n v hx hy
    split at hrun
    ·rename_i ys hys
     cases he:ys.isEmpty with
     | true => simp only [he,cond_true] at hrun;cases hrun;exact noMen_put hn rfl
     | false =>
       simp only [he,cond_false] at hrun
       cases hc:Nat.ble ys.length lim with
       | false => simp [hc] at hrun
       | true =>
         simp only [hc,cond_true] at hrun
         cases hrun
         exact noMen_put (noMen_obj hn (fun e => hd e.symm) (hfl hy hys)) (by simp [V.men,V.men1,V.men0];exact fun e => hd e.symm)
    ·cases hrun
   ·rename_i id s ln v hx hy
    split at hrun
    ·rename_i ys cs hys hob
     cases hc:((id == src) && (s == sh.length) && (cs.length == ln * s) && Nat.ble (ln + ys.length) lim) with
     | false => simp [hc] at hrun
     | true =>
       simp only [hc,cond_true] at hrun
       cases hrun
       have hn1:({ S with objs:=S.objs.filter fun p => !(p.1 == src) }:St).noMen d:=by
        refine ⟨hn.env,fun k cs' hk => ?_,?_,hn.tok⟩
        ·rw [look_filt] at hk
         split at hk
         ·cases hk
         ·exact hn.objs k cs' hk
        ·rw [look_filt]
         split
         ·rfl
         ·exact hn.obj
       refine noMen_put (noMen_obj hn1 (fun e => hd e.symm) (fun u hu => ?_)) (by simp [V.men,V.men1,V.men0];exact fun e => hd e.symm)
       rcases List.mem_append.1 hu with h | h
       ·exact hn.objs src cs hob u h
       ·exact hfl hy hys u h
    ·cases hrun
   ·cases hrun
 | ext x i =>
   simp only [VO.run] at hrun
   split at hrun
   ·rename_i vs hv
    split at hrun
    ·rename_i v hk
     cases hrun
     exact noMen_put hn (men_tuple (ev_men hn hcl hv) (List.mem_of_getElem? hk))
    ·cases hrun
   ·cases hrun
 | call alone f args reg =>
   cases alone
   case true =>
    simp only [VO.run] at hrun
    split at hrun
    ·split at hrun
     ·rename_i r G' hc
      cases hlone:r.lone with
      | false => simp [hlone] at hrun
      | true =>
        simp only [hlone,cond_true] at hrun
        cases hrun
        obtain ⟨h1,h2⟩:=recv_men (hC _ _ _ _ _ hc) hd
        have htok:look d ((recv reg r).2 ++ S.toks) = none:=by rw [look_append,h2];exact hn.tok
        exact noMen_put (S:={ env:=S.env,objs:=S.objs,toks:=(recv reg r).2 ++ S.toks,glob:=S.glob }) ⟨hn.env,hn.objs,hn.obj,htok⟩ h1
     ·cases hrun
    ·cases hrun
   simp only [VO.run] at hrun
   split at hrun
   ·split at hrun
    ·rename_i r G' hc
     cases hrun
     obtain ⟨h1,h2⟩:=recv_men (hC _ _ _ _ _ hc) hd
     have htok:look d ((recv reg r).2 ++ S.toks) = none:=by rw [look_append,h2];exact hn.tok
     exact noMen_put (S:={ env:=S.env,objs:=S.objs,toks:=(recv reg r).2 ++ S.toks,glob:=G' }) ⟨hn.env,hn.objs,hn.obj,htok⟩ h1
    ·cases hrun
   ·cases hrun
 | wrt k f i x =>
   simp only [VO.run] at hrun
   unfold St.mut at hrun
   split at hrun
   ·rename_i id s n hx
    split at hrun
    ·rename_i cs hob
     cases hc:(id == i && (s == 1) && Nat.ble n cs.length && Nat.ble n lim) with
     | false => simp [hc] at hrun
     | true =>
       simp only [hc,cond_true] at hrun
       simp only [Bool.and_eq_true,beq_iff_eq] at hc
       obtain ⟨⟨⟨rfl,rfl⟩,_⟩,_⟩:=hc
       split at hrun
       ·rename_i zs hzs
        cases hrun
        have hid:=ev_men hn hcl hx
        have hne:id ≠ d:=fun e => by simp [V.men,V.men1,V.men0,e] at hid
        refine noMen_put (noMen_obj hn hne fun u hu => ?_) ?_
        ·rcases List.mem_append.1 hu with h | h
         ·obtain ⟨z,_,rfl⟩:=List.mem_map.1 h;rfl
         ·exact hn.objs id cs hob u (List.mem_of_mem_drop h)
        ·unfold mutV
         split
         ·rfl
         ·simpa [V.men,V.men1,V.men0] using hne
       ·cases hrun
    ·cases hrun
   ·cases hrun
 | rcall f args =>
   have hrun:=rcall_run hrun
   simp only [VO.run] at hrun
   split at hrun
   ·split at hrun
    ·rename_i r G' hc
     cases hrun
     obtain ⟨h1,h2⟩:=recv_men (reg:=[]) (hC _ _ _ _ _ hc) (d:=d) (by simp [regsOf])
     have htok:look d ((recv [] r).2 ++ S.toks) = none:=by rw [look_append,h2];exact hn.tok
     exact noMen_put (S:={ env:=S.env,objs:=S.objs,toks:=(recv [] r).2 ++ S.toks,glob:=G' }) ⟨hn.env,hn.objs,hn.obj,htok⟩ h1
    ·cases hrun
   ·cases hrun
 | own f args id pos =>
   simp only [VO.names,List.mem_singleton] at hd
   have hL:∀ (pos:Nat) (vs us:List V) (o:Option (List V)),ownL id pos vs = some (us,o) → (∀ u ∈ us,u.men1 d = false) ∧ ∀ cs,o = some cs → ∀ u ∈ cs,u.men0 d = false:=by
    have scm:∀ {u:V},u.sc = true → u.men1 d = false ∧ u.men0 d = false:=fun {u} h => by cases u <;> simp [V.sc] at h <;> exact ⟨rfl,rfl⟩
    have scs:∀ {u:V},u.scs = true → (strip u).men1 d = false:=fun {u} h => by
     cases u with
     | slice t n es =>
       cases t with
       | none => simp [V.scs,V.sc] at h
       | some t => rfl
     | int | bool | str => rfl
     | _ => simp [V.scs,V.sc] at h
    intro pos
    induction pos with
    | zero =>
      intro vs us o h
      cases vs with
      | nil => simp [ownL] at h
      | cons v vs =>
        simp only [ownL] at h
        split at h
        ·rename_i t n es
         cases hc:(es.all (fun r => r.length == n && r.all V.sc) && vs.all V.scs) with
         | false => simp [hc] at h
         | true =>
           simp only [hc,cond_true] at h
           simp only [Bool.and_eq_true,List.all_eq_true] at hc
           cases he:es.isEmpty with
           | true =>
             simp only [he,cond_true,Option.some.injEq,Prod.mk.injEq] at h
             obtain ⟨rfl,rfl⟩:=h
             refine ⟨fun u hu => ?_,fun cs e => by cases e⟩
             rcases List.mem_cons.1 hu with rfl | hu
             ·rfl
             ·obtain ⟨u0,hu0,rfl⟩:=List.mem_map.1 hu
              exact scs (hc.2 u0 hu0)
           | false =>
             simp only [he,cond_false,Option.some.injEq,Prod.mk.injEq] at h
             obtain ⟨rfl,rfl⟩:=h
             refine ⟨fun u hu => ?_,fun cs e u hu => ?_⟩
             ·rcases List.mem_cons.1 hu with rfl | hu
              ·simp [V.men1,V.men0];exact fun e => hd e.symm
              ·obtain ⟨u0,hu0,rfl⟩:=List.mem_map.1 hu
               exact scs (hc.2 u0 hu0)
             ·cases e
              obtain ⟨r,hr1,hr2⟩:=List.mem_flatten.1 hu
              exact (scm ((hc.1 r hr1).2 u hr2)).2
        ·cases h
    | succ pos ih =>
      intro vs us o h
      cases vs with
      | nil => simp [ownL] at h
      | cons v vs =>
        simp only [ownL] at h
        cases hs:v.scs with
        | false => simp [hs] at h
        | true =>
          simp only [hs,cond_true] at h
          split at h
          ·rename_i us' o' h'
           simp only [Option.some.injEq,Prod.mk.injEq] at h
           obtain ⟨rfl,rfl⟩:=h
           obtain ⟨i1,i2⟩:=ih vs us' _ h'
           refine ⟨fun u hu => ?_,i2⟩
           rcases List.mem_cons.1 hu with rfl | hu
           ·exact scs hs
           ·exact i1 u hu
          ·cases h
   have hV:∀ r v o,ownV id pos r = some (v,o) → v.men d = false ∧ ∀ cs,o = some cs → ∀ u ∈ cs,u.men0 d = false:=fun r v o h => by
    unfold ownV at h
    split at h
    ·split at h
     ·rename_i us o' hl
      simp only [Option.some.injEq,Prod.mk.injEq] at h
      obtain ⟨rfl,rfl⟩:=h
      obtain ⟨i1,i2⟩:=hL _ _ _ _ hl
      refine ⟨?_,i2⟩
      simp only [V.men,List.any_eq_false]
      exact fun u hu => by simp [i1 u hu]
     ·cases h
    ·split at h
     ·rename_i u o' hl
      simp only [Option.some.injEq,Prod.mk.injEq] at h
      obtain ⟨rfl,rfl⟩:=h
      obtain ⟨i1,i2⟩:=hL _ _ _ _ hl
      exact ⟨men_of_men1 (i1 u (by simp)),i2⟩
     ·cases h
   simp only [VO.run] at hrun
   split at hrun
   ·split at hrun
    ·split at hrun
     ·rename_i v cs hov
      cases hrun
      obtain ⟨i1,i2⟩:=hV _ _ _ hov
      exact noMen_put (noMen_obj hn (fun e => hd e.symm) (i2 cs rfl)) i1
     ·rename_i v hov
      cases hrun
      exact noMen_put hn (hV _ _ _ hov).1
     ·cases hrun
    ·cases hrun
   ·cases hrun
 | mkobj id zero x =>
   simp only [VO.clean,Bool.and_eq_true,List.all_eq_true] at hcl
   simp only [VO.names,List.mem_singleton] at hd
   simp only [VO.run] at hrun
   split at hrun
   ·rename_i k n hx
    cases hc:(decide (0 ≤ n) && decide (n ≤ (lim:Int))) with
    | false => simp [hc] at hrun
    | true =>
      simp only [hc,cond_true] at hrun
      cases hrun
      refine noMen_put (noMen_obj hn (fun e => hd e.symm) fun v hv => ?_) (by simp [V.men,V.men1,V.men0];exact fun e => hd e.symm)
      obtain ⟨l,hl,hv⟩:=List.mem_flatten.1 hv
      rw [(List.mem_replicate.1 hl).2] at hv
      exact bare0_men0 (hcl.2 v hv) d
   ·cases hrun
 | slc sz x lo hi =>
   simp only [VO.run] at hrun
   split at hrun
   ·rename_i tk m es _
    split at hrun
    ·rename_i k1 l k2 h _ _
     cases hc:(decide (0 ≤ l) && decide (l ≤ h) && decide (h ≤ (es.length:Int)) && (m == sz)) with
     | false => simp [hc] at hrun
     | true => simp only [hc,cond_true] at hrun;cases hrun;exact noMen_put hn rfl
    ·cases hrun
   ·cases hrun
 | mm3 mx x y z =>
   simp only [VO.run] at hrun
   split at hrun
   ·cases hrun;exact noMen_put hn rfl
   ·cases hrun
 | mm mx x y =>
   simp only [VO.run] at hrun
   split at hrun
   ·cases hrun;exact noMen_put hn rfl
   ·cases hrun
 | mkfn f cap =>
   simp only [VO.run] at hrun
   split at hrun
   ·split at hrun
    ·cases hrun;exact noMen_put hn rfl
    ·cases hrun
   ·cases hrun
end
end Go.Vm
