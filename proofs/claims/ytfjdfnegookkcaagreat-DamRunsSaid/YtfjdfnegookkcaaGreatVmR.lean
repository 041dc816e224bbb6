/- The value machine: results that become the caller's own. -/
import Derived.Test.YtfjdfnegookkcaaGreatVmQ
import Derived.Test.YtfjdfnegookkcaaGreatVmO
namespace Go.Vm
set_option linter.all false
section
variable {P:Program} {E:Entry} {g g':Gh} {S S':St} {a:Act} {w w':World}
theorem sc_any {X:Cx} {v:V} {y:Value} (h:v.sc = true) (hr:XRel X (strip v) y) (X':Cx):XRel X' v y:=by
 cases v <;> simp [V.sc] at h
 ·rw [rel_int hr];exact .plain (.int _ _) (plain_tok rfl)
 ·rw [rel_bool hr];exact .plain (.bool _) (plain_tok rfl)
 ·obtain ⟨z,rfl,e⟩:=XRel.str_inv hr
  subst e
  exact .plain (.str _) (plain_tok rfl)
theorem sc_cell {v:V} (h:v.sc = true):v.isCell = true ∧ (∀ d,v.men d = false) ∧ strip v = v:=by
 cases v <;> simp [V.sc] at h <;> exact ⟨rfl,fun _ => rfl,rfl⟩
theorem scs_rel {X:Cx} {base q:Nat} {v:V} {y:Value} (h:v.scs = true) (hr:XRel X (strip v) y) (hf:Fresh X base (fun _ => False) q v y) (X':Cx) (hh:X'.h = X.h) (hm:∀ b,X.g.ow b = .tok q → X.g.m b ≤ X'.g.m b):XRel X' (strip v) y:=by
 have sc:v.sc = true → XRel X' (strip v) y:=fun hs => by
  rw [(sc_cell hs).2.2]
  exact sc_any hs hr X'
 cases v with
 | slice t n es =>
   cases t with
   | none => simp [V.scs,V.sc] at h
   | some t =>
     simp only [V.scs,List.all_eq_true,Bool.and_eq_true,beq_iff_eq] at h
     have hv:VRel X.h X.g.m (.slice none n es) y:=by
      have:XRel X (.slice none n es) y:=hr
      cases this with | plain h _ => exact h
     have go:VRel X'.h X'.g.m (.slice none n es) y:=by
      cases hv with
      | nil => exact .nil _ _
      | empty _ _ a cap => exact .empty _ _ a cap
      | slice _ _ _ b off cap ys hb hcap hrow hc hvv hp hmm =>
        by_cases he:es = []
        ·subst he
         exact .empty _ _ _ cap
        rcases hf t n es rfl with ⟨e,_⟩ | ⟨b',off',cap',c,e,h1,_,h3,_,_,_,_,_⟩
        ·exact absurd e he
        ·injection h1 with h1 _ _
         injection h1 with h1
         injection h1 with h4 h5 _
         subst h4
         refine .slice none n es b off cap ys (by rw [hh];exact hb) hcap hrow (fun i row j v hi hj => by rw [hh];exact hc i row j v hi hj) (fun i row j v hi hj => ?_) hp (Nat.le_trans hmm (hm b h3))
         have hs:=(h row (List.mem_of_getElem? hi)).2 v (List.mem_of_getElem? hj)
         have h6:=hvv i row j v hi hj
         generalize ys i j = z at h6 ⊢
         cases v <;> simp [V.sc] at hs
         ·cases h6;exact .int _ _
         ·cases h6;exact .bool _
         ·cases h6;exact .str _
     exact .plain go (fun _ _ _ e => by cases e)
 | _ => exact sc (by simpa [V.scs] using h)
def OwnRel (X:Cx) (base p id:Nat) (us:List V) (ys:List Value):Option (List V) → Prop
 | none => us.length = ys.length ∧ ∀ (X':Cx),X'.h = X.h → (∀ b,X.g.m b ≤ X'.g.m b) → ∀ (k:Nat) (u:V) (y:Value),us[k]? = some u → ys[k]? = some y → XRel X' u y
 | some cs => us.length = ys.length ∧ ∃ b cp0 c e,base ≤ b ∧ X.g.ow b = .tok p ∧ X.h[b]? = some (.cells c e (0,0)) ∧ cp0 ≤ c.size ∧
   (∀ (j:Nat) (u:V),cs[j]? = some u → u.sc = true ∧ ∃ y,c[j]? = some y ∧ ∀ X':Cx,XRel X' u y) ∧
   ∀ X':Cx,X'.h = X.h → (∀ b',b' ≠ b → X.g.m b' ≤ X'.g.m b') → X'.g.κ id = b → X'.g.cp id = cp0 → ∀ (k:Nat) (u:V) (y:Value),us[k]? = some u → ys[k]? = some y → XRel X' u y
theorem ownL_rel {X:Cx} {base id:Nat}:∀ {pos k0:Nat} {vs us:List V} {ys:List Value} {o:Option (List V)},ownL id pos vs = some (us,o) → vs.length = ys.length →
  (∀ (k:Nat) (v:V) (y:Value),vs[k]? = some v → ys[k]? = some y → XRel X (strip v) y ∧ Fresh X base (fun _ => False) (k0 + k) v y) → OwnRel X base (k0 + pos) id us ys o
 | _,_,[],_,_,_,h,_,_ => by cases ‹Nat› <;> simp [ownL] at h
 | 0,_,_ :: _,_,[],_,_,hl,_ => by simp at hl
 | 0,k0,v :: vs,us,y :: ys,o,h,hl,hr => by
   simp only [ownL] at h
   split at h
   ·rename_i t n es
    cases hc:(es.all (fun r => r.length == n && r.all V.sc) && vs.all V.scs) with
    | false => simp [hc] at h
    | true =>
      simp only [hc,cond_true] at h
      simp only [Bool.and_eq_true,List.all_eq_true,beq_iff_eq] at hc
      obtain ⟨h0,hf⟩:=hr 0 _ y rfl rfl
      have hrest:∀ (X':Cx),X'.h = X.h → (∀ b,X.g.ow b ≠ .tok k0 → X.g.m b ≤ X'.g.m b) → ∀ (k:Nat) (u:V) (z:Value),(vs.map strip)[k]? = some u → ys[k]? = some z → XRel X' u z:=fun X' hh hm k u z hu hz => by
       rw [List.getElem?_map] at hu
       cases hk:vs[k]? with
       | none => simp [hk] at hu
       | some u0 =>
         simp [hk] at hu
         subst hu
         obtain ⟨q1,q2⟩:=hr (k + 1) u0 z (by simpa using hk) (by simpa using hz)
         exact scs_rel (hc.2 u0 (List.mem_of_getElem? hk)) q1 q2 X' hh (fun b hb => hm b (fun e => by rw [hb] at e;injection e with e;omega))
      cases he:es.isEmpty with
      | true =>
        simp only [he,cond_true,Option.some.injEq,Prod.mk.injEq] at h
        obtain ⟨rfl,rfl⟩:=h
        have he:es = []:=by simpa using he
        subst he
        refine ⟨by simpa using hl,fun X' hh hm k u z hu hz => ?_⟩
        cases k with
        | zero =>
          simp at hu hz
          subst hu;subst hz
          rcases hf t n [] rfl with ⟨_,e⟩ | ⟨b,off,cap,c,e,_,_,_,_,_,_,_,h9⟩
          ·exact .zed e
          ·simp at h9
        | succ k => exact hrest X' hh (fun b _ => hm b) k u z (by simpa using hu) (by simpa using hz)
      | false =>
        simp only [he,cond_false,Option.some.injEq,Prod.mk.injEq] at h
        obtain ⟨rfl,rfl⟩:=h
        have hne:es ≠ []:=by intro e;subst e;simp at he
        rcases hf t n es rfl with ⟨e,_⟩ | ⟨b,off,cap,c,e,h1,h2,h3,_,h5,h6,h7,_⟩
        ·exact absurd e hne
        ·subst h7
         have hv:VRel X.h X.g.m (.slice none n es) y:=by
          have:XRel X (.slice none n es) y:=h0
          cases this with | plain h _ => exact h
         rcases sl_of_vrel' hv with ⟨e,_⟩ | ⟨e,_⟩ | ⟨b',off',cap',l,q1,q2,q3,q4⟩
         ·exact absurd e hne
         ·exact absurd e hne
         ·rw [q1] at h1
          injection h1 with r1 r2 r3
          injection r1 with r1
          injection r1 with r4 r5 r6
          subst r4;subst r5;subst r3
          obtain ⟨f1,f2⟩:=rows_flat q4
          refine ⟨by simpa using hl,b',cap' * n,c,e,h2.resolve_right (fun h => h),h3,h5,by omega,fun j u hu => ?_,fun X' hh hm k1 k2 k u z hu hz => ?_⟩
          ·obtain ⟨_,z,hz1,hz2⟩:=f2 j u hu
           have hsc:u.sc = true:=by
            obtain ⟨r,hr1,hr2⟩:=List.mem_flatten.1 (List.mem_of_getElem? hu)
            exact (hc.1 r hr1).2 u hr2
           have hcell:=q3 j z hz1
           rw [cellAt_of h5,Nat.zero_add] at hcell
           refine ⟨hsc,z,hcell,fun X' => sc_any (X:=X) hsc ?_ X'⟩
           rw [(sc_cell hsc).2.2]
           exact .plain hz2 (plain_tok (by cases u <;> simp_all [V.sc,V.plain]))
          ·cases k with
           | zero =>
             simp at hu hz
             subst hu;subst hz
             rw [q1,← k1]
             exact .lref id n es.length cap' q2 k2.symm
           | succ k => exact hrest X' hh (fun b2 hb2 => hm b2 (fun e => hb2 (by rw [e];exact h3))) k u z (by simpa using hu) (by simpa using hz)
   ·cases h
 | pos + 1,k0,v :: vs,us,[],o,h,hl,_ => by simp at hl
 | pos + 1,k0,v :: vs,us,y :: ys,o,h,hl,hr => by
   simp only [ownL] at h
   cases hs:v.scs with
   | false => simp [hs] at h
   | true =>
     simp only [hs,cond_true] at h
     split at h
     ·rename_i us' o' h'
      simp only [Option.some.injEq,Prod.mk.injEq] at h
      obtain ⟨rfl,rfl⟩:=h
      have ih:=ownL_rel (k0:=k0 + 1) h' (by simpa using hl) (fun k v z hv hz => by
       have:=hr (k + 1) v z (by simpa using hv) (by simpa using hz)
       rw [show k0 + (k + 1) = k0 + 1 + k from by omega] at this
       exact this)
      obtain ⟨h00,h01⟩:=hr 0 v y rfl rfl
      have h0:∀ X':Cx,X'.h = X.h → (∀ b,X.g.ow b = .tok (k0 + 0) → X.g.m b ≤ X'.g.m b) → XRel X' (strip v) y:=fun X' hh hm => scs_rel hs h00 h01 X' hh hm
      rw [show k0 + 1 + pos = k0 + (pos + 1) from by omega] at ih
      cases o' with
      | none =>
        obtain ⟨i1,i2⟩:=ih
        refine ⟨by simp [i1],fun X' hh hm k u z hu hz => ?_⟩
        cases k with
        | zero => simp at hu hz;subst hu;subst hz;exact h0 X' hh (fun b _ => hm b)
        | succ k => exact i2 X' hh hm k u z (by simpa using hu) (by simpa using hz)
      | some cs =>
        obtain ⟨i1,b,cp0,c,e,i2,i3,i4,i5,i6,i7⟩:=ih
        refine ⟨by simp [i1],b,cp0,c,e,i2,i3,i4,i5,i6,fun X' hh hm k1 k2 k u z hu hz => ?_⟩
        cases k with
        | zero => simp at hu hz;subst hu;subst hz;exact h0 X' hh (fun b2 hb2 => hm b2 (fun e => by rw [e,i3] at hb2;injection hb2 with e2;omega))
        | succ k => exact i7 X' hh hm k1 k2 k u z (by simpa using hu) (by simpa using hz)
     ·cases h
theorem R.adopt (hR:R E g S a w) {id b:Nat} (hn:S.noMen id) (hm:g.m b = 0) (how:g.ow b = .none) (hbase:E.w0.heap.size ≤ b) {c:Array Value} {e:TypeId} (hh:w.heap[b]? = some (.cells c e (0,0)))
  {cs:List V} (hcs:∀ (j:Nat) (v:V),cs[j]? = some v → v.isCell = true ∧ v.men id = false ∧ ∃ y,c[j]? = some y ∧ XRel (S.cx g w) v y) {cpn:Nat} (hcpn:cpn ≤ c.size) :
  ∃ g',R E g' { S with objs:=(id,cs) :: S.objs } a w ∧ g'.κ id = b ∧ g'.cp id = cpn ∧ g'.m = g.m:=by
 let g':Gh:={ g with κ:=upd g.κ id b,cp:=upd g.cp id cpn,ow:=upd g.ow b (.obj id) }
 have t:Touch E g S w g' S.toks S.glob.length w b (some id) none :=
  {os:=rfl,tape:=rfl,output:=rfl,size:=Nat.le_refl _,heap:=fun _ _ _ => rfl,m:=fun _ _ => rfl,ow:=fun _ hb => upd_ne _ _ hb,
   κ:=fun i hi => upd_ne _ _ (fun e => hi (by rw [e])),cp:=fun i hi => upd_ne _ _ (fun e => hi (by rw [e])),τ:=fun _ _ => rfl,T:=fun _ _ => rfl,γ:=fun _ _ => rfl,nle:=Nat.le_refl _,
   γnew:=fun i a b => absurd a (by omega),fresh:=.inl hbase,cold:=fun p q _ e => by (have e:upd g.ow b (.obj id) b = .cell p q:=e);rw [upd_same] at e;exact nomatch e
   imm:=fun _ _ _ h => h,mle:=fun _ => Nat.le_refl _ }
 have hkeep:∀ i,Keeps (S.cx g w) ⟨w.heap,g',S.glob.length,S.toks⟩ i ∨ i = id:=fun i => by
  by_cases hi:i = id
  ·exact .inr hi
  ·exact .inl (t.keeps hR (fun e => hi (by cases e;rfl)) (fun e => by cases e) (fun _ e => by rw [how] at e;cases e))
 refine ⟨g',R.touched t hR rfl rfl (fun i => (hkeep i).imp (fun z => z) fun e => by rw [e];exact hn) (fun s v hs => .inl hs) (fun i cs' ho => ?_) (fun f k b hf hb => .inl ⟨(fun e => by cases e),fun _ e => by rw [how] at e;cases e⟩)
  (fun i o ho => .inl ⟨ho,fun _ => ⟨fun e => (by rw [how] at e;cases e),fun _ e => (by rw [how] at e;cases e)⟩⟩),upd_same _ _ _,upd_same _ _ _,rfl⟩
 rw [look_cons] at ho
 by_cases hi:id = i
 ·subst hi
  rw [if_pos rfl] at ho
  cases ho
  refine .inr ⟨?_,?_,?_,c,e,?_,(by show upd g.cp _ _ _ ≤ _;rw [upd_same];exact hcpn),fun j v hj => ?_⟩
  ·show upd g.ow _ _ (upd g.κ _ _ _) = _;rw [upd_same,upd_same]
  ·show _ ≤ upd g.κ _ _ _;rw [upd_same];exact hbase
  ·show g.m (upd g.κ _ _ _) = _;rw [upd_same];exact hm
  ·show w.heap[upd g.κ _ _ _]? = _;rw [upd_same];exact hh
  ·obtain ⟨q1,q2,y,q3,q4⟩:=hcs j v hj
   exact ⟨q1,y,q3,q4.mono t.le fun i => (hkeep i).imp (fun z => z) fun e => by rw [e];exact q2⟩
 ·rw [if_neg hi] at ho
  exact .inl ⟨ho,fun e => hi (by cases e;rfl),fun _ e => by rw [how] at e;cases e⟩
theorem R.alone (hR:R E g S a w) {N:Nat} (hx:Ext w (noCell g) 0 w' g' N) (m':Nat → Nat) (hm':∀ b,b < w.heap.size → m' b = g.m b) :
  ∃ gn,R E gn S a w' ∧ gn.m = m' ∧ ∀ b p,w.heap.size ≤ b → g'.ow b = .tok p → gn.ow b = .none:=by
 let g2:Gh:={ g' with m:=m',γ:=g.γ,ow:=fun b => if b < w.heap.size then g.ow b else match g'.ow b with | .glob _ => .none | q => q }
 have hold:∀ b,b < w.heap.size → w'.heap[b]? = w.heap[b]? ∧ m' b = g.m b:=fun b hb => ⟨(hx.old b hb (fun i hi => absurd hi (by simp)) (noCell_own g b)).1,hm' b hb⟩
 have hext2:Ext w g S.glob.length w' g2 S.glob.length:=⟨hx.os,hx.tape,hx.output,hx.size,Nat.le_refl _,fun _ _ => rfl,fun i a b => absurd a (by omega),fun b hb _ _ => hold b hb,
  fun b hb _ => ⟨fun o y _ hy => by rw [cellAt_same (hold b hb).1];exact hy,Nat.le_of_eq (hold b hb).2.symm⟩,fun b p q hb h => ⟨p,q,by (have h:(if b < w.heap.size then _ else _) = Ow.cell p q:=h);rw [if_pos hb] at h;exact h⟩⟩
 have hG2o:∀ i o,S.glob[i]? = some o → Owns w'.heap g2 (g2.γ i) o:=fun i o hi => by
  have h3:=hR.glob.own i o hi
  cases o with
  | map es => trivial
  | cells cs =>
    intro j n es y hj hy
    have hy:cellAt w'.heap (g.γ i) j = some y:=hy
    rw [cellAt_same (hold _ (glob_lt hR hi)).1] at hy
    rcases h3 j n es y hj hy with h | ⟨q,cap,c',e',q1,q2,q3,q4,q5,q6⟩
    ·exact .inl h
    ·have hql:q < w.heap.size:=by
      rcases Nat.lt_or_ge q w.heap.size with h | h
      ·exact h
      ·simp [Array.getElem?_eq_none h] at q4
     exact .inr ⟨q,cap,c',e',q1,by show (if q < w.heap.size then _ else _) = _;rw [if_pos hql];exact q2,(hold q hql).2.trans q3,(hold q hql).1.trans q4,q5,q6⟩
 have hG2:GlobRel w'.heap g2 S.glob:=⟨fun i o hi => by
  obtain ⟨h1,h2⟩:=hR.glob i o hi
  have hlt:=glob_lt hR hi
  obtain ⟨q1,q2⟩:=hold _ hlt
  have le:Le ⟨w.heap,g,S.glob.length,[]⟩ ⟨w'.heap,g2,S.glob.length,[]⟩ :=
   ⟨hx.size,fun b o y ho hy => by
    have hb:=cellAt_lt hy
    show cellAt w'.heap b o = some y
    rw [cellAt_same (hold b hb).1];exact hy,fun b hb => Nat.le_of_eq (hold b hb).2.symm,Nat.le_refl _,fun _ _ => rfl⟩
  refine ⟨by show (if g.γ i < w.heap.size then _ else _) = _;rw [if_pos hlt];exact h1,?_⟩
  cases o with
  | map es =>
    obtain ⟨h3,c,e,h4,h5,h6⟩:=h2
    refine ⟨q2.trans h3,c,e,q1.trans h4,h5,fun j v y hj hy => ?_⟩
    obtain ⟨h7,h8,h9,h10⟩:=h6 j v y hj hy
    exact ⟨h7,h8,h9.mono le fun d => .inr (h7 d),h10.mono le fun d => .inr (men_of_men1 (h8 d))⟩
  | cells cs =>
    obtain ⟨h3,c,e,h4,h5,h6⟩:=h2
    refine ⟨q2.trans h3,c,e,q1.trans h4,h5,fun j v y hj hy => ?_⟩
    obtain ⟨h7,h8,h9⟩:=h6 j v y hj hy
    exact ⟨h7,h8,h9.mono le fun d => .inr (h8 d)⟩,hG2o⟩
 have hret:RetRel ⟨w'.heap,g2,S.glob.length,[]⟩ w.heap.size (ownB g) (.bool true) (.bool true):=by
  refine ⟨[.bool true],rfl,rfl,fun p v y hv hy => ?_⟩
  match p with
  | 0 =>
    simp [V.comps] at hv hy
    subst hv;subst hy
    exact ⟨.plain (.bool _) (plain_tok rfl),fun _ => rfl,fun f n es e => by cases e⟩
  | p + 1 => simp [V.comps] at hv
 obtain ⟨gn,r1,_,r3,r4⟩:=hR.called (reg:=[]) hext2 hG2 hret rfl (fun p f h => by simp [look] at h)
 refine ⟨gn,r1,r3,fun b p hb ho => r4 b p hb ?_ rfl⟩
 show (if b < w.heap.size then _ else _) = _
 rw [if_neg (by omega),ho]
theorem do_own {o:Oper} {f:Operand} {args:Array Operand} {ts:Array TypeId} {fo:Opd} {as:List (Sh × Opd)} {id pos:Nat} {C:CallF} (ho:o.op = .call ⟨.value f,args,ts⟩) (hf:okOpd f fo = true)
  (has:as.length = args.toList.length ∧ ∀ (i:Nat) sh x y,as[i]? = some (sh,x) → args.toList[i]? = some y → okOpd y x = true)
  (hC:∀ f args G r G',C f args G = some (r,G') → CallSim P f args G r G') (hn:S.noMen id)
  (hR:R E g S a w) (hd:∀ d,o.dst = some d → d < E.nt) (hrun:VO.run C o.dst S (.own fo as id pos) = some S'):Does P E o S S' a w:=by
 simp only [VO.run] at hrun
 split at hrun
 ·rename_i fid vs hfv hvs
  split at hrun
  ·rename_i r G' hcall
   have hsim:=hC _ _ _ _ _ hcall
   obtain ⟨fn,hfn,hbody,hname⟩:=hsim.fn
   have e1:a.eval f = .func (.func fid) #[] #[]:=by
    have hr:=ev_rel hR hf hfv
    generalize a.eval f = y at hr
    cases hr with
    | plain h _ => cases h
    | fn _ _ xs hl hx =>
      have:xs = #[]:=by
       apply Array.eq_empty_of_size_eq_zero
       simpa using hl.symm
      rw [this]
   obtain ⟨hl,hx⟩:=pargs_rel hR 0 has hvs
   have hexec:(execOp a.eval o).run P w = .ok (.enter fid (args.map a.eval)) w:=by
    simp [execOp,ho,resolve,e1,Deferred.ofValue,invoke,callFunc,hfn]
    simp at hname
    cases hb:fn.body with
    | none => simp [hb] at hbody
    | some c => simp [hname]
   intro K Q hK
   unfold Oper.wp
   rw [hexec,Oper.upon_enter]
   have hcalls:=hsim.run w (noCell g) (args.toList.map a.eval) ⟨fun i o h => by simp at h,fun i o h => by simp at h⟩ (by simp;simpa using hl) (fun i v x hv hxx => XRel.mono (X:=⟨w.heap,g,0,[]⟩) (X':=⟨w.heap,noCell g,0,[]⟩) ⟨Nat.le_refl _,fun _ _ _ _ h => h,fun _ _ => Nat.le_refl _,Nat.le_refl _,fun _ _ => rfl⟩ (hx i v x hv hxx) (fun d => .inl ⟨rfl,rfl,fun k hk => by simp [look] at hk⟩))
   have hargs:(args.toList.map a.eval).toArray = args.map a.eval:=by
    apply Array.ext'
    simp
   rw [hargs] at hcalls
   refine hcalls.mono fun e w' ⟨x,g',he,hext,hG,hret⟩ => ?_
   subst he
   have hv:∀ v cs,ownV id pos r = some (v,cs) → ∃ us ys,OwnRel ⟨w'.heap,g',G'.length,[]⟩ w.heap.size pos id us ys cs ∧ ∀ X':Cx,(∀ (k:Nat) (u:V) (y:Value),us[k]? = some u → ys[k]? = some y → XRel X' u y) → XRel X' v x:=fun v cs hov => by
    obtain ⟨ys,p1,p2,p3⟩:=hret
    have hrel:∀ vs us,r.comps = vs → ownL id pos vs = some (us,cs) → OwnRel ⟨w'.heap,g',G'.length,[]⟩ w.heap.size pos id us ys cs:=fun vs us hvs ho => by
     subst hvs
     have:=ownL_rel (k0:=0) ho p2.symm (fun k v y hv hy => by
      obtain ⟨q1,_,q3⟩:=p3 k v y hv hy
      rw [Nat.zero_add]
      exact ⟨q1,fun f n es e => (q3 f n es e).imp (fun z => z) fun ⟨b,off,cap,c,e,h1,h2,h3⟩ => ⟨b,off,cap,c,e,h1,.inl (h2.resolve_right (noCell_own g b)),h3⟩⟩)
     rwa [Nat.zero_add] at this
    unfold ownV at hov
    split at hov
    ·rename_i vs'
     split at hov
     ·rename_i us o' hol
      simp only [Option.some.injEq,Prod.mk.injEq] at hov
      obtain ⟨rfl,rfl⟩:=hov
      have hr:=hrel _ us rfl hol
      refine ⟨us,ys,hr,fun X' h => ?_⟩
      have hp:x = .tuple ys.toArray:=p1
      rw [hp]
      have hlen:us.length = ys.length:=by cases o' <;> exact hr.1
      exact .tuple _ _ (by simpa using hlen) fun i v y hv hy => h i v y hv (by simpa using hy)
     ·cases hov
    ·rename_i hnt
     split at hov
     ·rename_i u o' hol
      simp only [Option.some.injEq,Prod.mk.injEq] at hov
      obtain ⟨rfl,rfl⟩:=hov
      have hna:∀ cs,r ≠ .agg cs:=fun cs e => by
       subst e
       cases pos <;> simp [ownL,V.sc] at hol
      have hc:r.comps = [r]:=by
       cases r <;> first | rfl | (exact absurd rfl (hnt _)) | (exact absurd rfl (hna _))
      have hr:=hrel _ [u] hc hol
      refine ⟨[u],ys,hr,fun X' h => ?_⟩
      have hp:ys = [x]:=by
       cases r <;> first | exact p1 | (exact absurd rfl (hnt _)) | (exact absurd rfl (hna _))
      exact h 0 u x rfl (by rw [hp];rfl)
     ·cases hov
   split at hrun
   ·rename_i v cs hov
    cases hrun
    obtain ⟨us,ys,⟨_,b,cp0,c,e,h1,h2,h3,h4,h5,h6⟩,hx'⟩:=hv v (some cs) hov
    obtain ⟨gn,r1,r2,r3⟩:=hR.alone hext (fun i => if i = b then 0 else g'.m i) (fun i hi => by
     rw [if_neg (by omega)]
     exact (hext.old i hi (fun i hi => absurd hi (by simp)) (noCell_own g i)).2)
    obtain ⟨gk,k1,k2,k3,k4⟩:=r1.adopt (cs:=cs) (cpn:=cp0) hn (by rw [r2];exact if_pos rfl) (r3 b pos h1 h2) (Nat.le_trans hR.same.size h1) h3 (fun j u hu => by
     obtain ⟨q1,y,q2,q3⟩:=h5 j u hu
     exact ⟨(sc_cell q1).1,(sc_cell q1).2.1 _,y,q2,q3 _⟩) h4
    exact hK gk _ _ (k1.put hd (hx' _ (h6 _ rfl (fun b' hb' => by show g'.m b' ≤ gk.m b';rw [k4,r2];simp only [if_neg hb'];exact Nat.le_refl _) k2 k3)))
   ·rename_i v hov
    cases hrun
    obtain ⟨us,ys,⟨_,h1⟩,hx'⟩:=hv v none hov
    obtain ⟨gn,r1,r2,_⟩:=hR.alone hext g'.m (fun i hi => (hext.old i hi (fun i hi => absurd hi (by simp)) (noCell_own g i)).2)
    exact hK gn _ _ (r1.put hd (hx' _ (h1 _ rfl (fun b => by show g'.m b ≤ gn.m b;rw [r2];exact Nat.le_refl _))))
   ·cases hrun
  ·cases hrun
 ·cases hrun
def lentG (S:St) (g:Gh) (w:World) (ids:List Nat):Gh :=
 {noCell g with m:=fun b => if (ids.any fun id => (look id S.objs).isSome && g.κ id == b) = true then (match w.heap[b]? with | some (.cells c _ _) => c.size | _ => 0) else g.m b }
theorem lentG_le (hR:R E g S a w) (ids:List Nat) (N:Nat):Le ⟨w.heap,g,N,[]⟩ ⟨w.heap,lentG S g w ids,N,[]⟩ where
 size:=Nat.le_refl _
 cells:=fun _ _ _ _ h => h
 m:=fun b _ => by
  show g.m b ≤ if _ then _ else g.m b
  split
  ·rename_i h
   simp only [List.any_eq_true,Bool.and_eq_true,beq_iff_eq] at h
   obtain ⟨id,_,h1,rfl⟩:=h
   obtain ⟨cs,hcs⟩:=Option.isSome_iff_exists.1 h1
   rw [(hR.objs id cs hcs).2.2.1]
   exact Nat.zero_le _
  ·exact Nat.le_refl _
 nle:=Nat.le_refl _
 γ:=fun _ _ => rfl
theorem largs_rel (hR:R E g S a w) (ids:List Nat):∀ {args:List (Sh × Sh × Opd)} {ops:List Operand} {vs:List V},(args.length = ops.length ∧ ∀ (i:Nat) rs sh x y,args[i]? = some (rs,sh,x) → ops[i]? = some y → okOpd y x = true) → largs S ids args = some vs →
  vs.length = ops.length ∧ ∀ (i:Nat) (v:V) (x:Value),vs[i]? = some v → (ops.map a.eval)[i]? = some x → XRel ⟨w.heap,lentG S g w ids,0,[]⟩ v x
 | [],[],vs,_,h => by simp [largs] at h;subst h;simp
 | [],_ :: _,_,h,_ => by simp at h
 | _ :: _,[],_,h,_ => by simp at h
 |(rs,sh,x) :: args,y :: ops,vs,hok,h => by
  simp only [largs] at h
  split at h
  ·rename_i u us h1 h2
   cases h
   have hxr:∀ v,S.ev x = some v → XRel (S.cx g w) v (a.eval y):=fun v hv => ev_rel hR (hok.2 0 rs sh x y (by simp) (by simp)) hv
   have hr:XRel ⟨w.heap,lentG S g w ids,0,[]⟩ u (a.eval y):=by
    split at h1
    ·rename_i id s n hev
     unfold St.lent at h1
     cases hc:ids.contains id with
     | false => rw [hc] at h1;cases h1
     | true =>
       rw [hc] at h1
       simp only [cond_true] at h1
       split at h1
       ·rename_i es hrows
        cases h1
        have hl:=hxr _ hev
        obtain ⟨id',n',he,hlen,c,e,hh,hfit,hrr,how,hbase⟩:=objRows_rel hR hl hrows
        cases he
        have hm0:∃ cs,look id S.objs = some cs:=by
         unfold St.objRows at hrows
         simp only at hrows
         split at hrows
         ·rename_i cs h;exact ⟨cs,h⟩
         ·cases hrows
        obtain ⟨cs,hcs⟩:=hm0
        have hm:(lentG S g w ids).m (g.κ id) = c.size:=by
         show (if _ then _ else _) = _
         rw [if_pos,hh]
         simp only [List.any_eq_true,Bool.and_eq_true,beq_iff_eq]
         exact ⟨id,by simpa using hc,by rw [hcs];rfl,rfl⟩
        have hlt:g.κ id < w.heap.size:=by
         rcases Nat.lt_or_ge (g.κ id) w.heap.size with h | h
         ·exact h
         ·simp [Array.getElem?_eq_none h] at hh
        generalize a.eval y = yy at hl
        cases hl with
        | plain h _ => cases h
        | lref _ _ _ cap hcap _ =>
          rw [← hlen]
          refine .plain (vrel_of_block (m:=(lentG S g w ids).m) (hrr.mono (lentG_le hR ids 0)) hlt (by omega) (fun j y hj => ?_) ?_ _) (fun _ _ _ e => by cases e)
          ·show cellAt w.heap (g.κ id) _ = _
           rw [cellAt_of hh]
           rw [List.getElem?_take] at hj
           split at hj
           ·simpa using hj
           ·cases hj
          ·show _ ≤ (lentG S g w ids).m (g.κ id)
           rw [hm,hlen,Nat.zero_add];exact hfit
       ·cases h1
    ·rename_i v _ hev
     exact (parg_rel h1 (hxr _ hev) 0).mono (lentG_le hR ids 0) (fun d => .inl ⟨rfl,rfl,fun k hk => by simp [look] at hk⟩)
    ·cases h1
   obtain ⟨e,hx⟩:=largs_rel hR ids (args:=args) (ops:=ops) ⟨by simpa using hok.1,fun i rs' sh' x' y' hi hj => hok.2 (i + 1) rs' sh' x' y' (by simpa using hi) (by simpa using hj)⟩ h2
   refine ⟨by simp [e],fun i z zz hz hzz => ?_⟩
   cases i with
   | zero => simp at hz hzz;subst hz;subst hzz;exact hr
   | succ i => exact hx i z zz (by simpa using hz) (by simpa using hzz)
  ·cases h
theorem do_lcall {o:Oper} {f:Operand} {args:Array Operand} {ts:Array TypeId} {fo:Opd} {as:List (Sh × Sh × Opd)} {ids:List Nat} {C:CallF} (ho:o.op = .call ⟨.value f,args,ts⟩) (hf:okOpd f fo = true)
  (has:as.length = args.toList.length ∧ ∀ (i:Nat) rs sh x y,as[i]? = some (rs,sh,x) → args.toList[i]? = some y → okOpd y x = true)
  (hC:∀ f args G r G',C f args G = some (r,G') → CallSim P f args G r G')
  (hR:R E g S a w) (hd:∀ d,o.dst = some d → d < E.nt) (hrun:VO.run C o.dst S (.lcall fo as ids) = some S'):Does P E o S S' a w:=by
 simp only [VO.run] at hrun
 split at hrun
 ·rename_i fid vs hfv hvs
  split at hrun
  ·rename_i r G' hcall
   cases hscal:r.scal with
   | false => rw [hscal] at hrun;cases hrun
   | true =>
   rw [hscal] at hrun
   simp only [cond_true,Option.some.injEq] at hrun
   subst hrun
   have hsim:=hC _ _ _ _ _ hcall
   obtain ⟨fn,hfn,hbody,hname⟩:=hsim.fn
   have e1:a.eval f = .func (.func fid) #[] #[]:=by
    have hr:=ev_rel hR hf hfv
    generalize a.eval f = y at hr
    cases hr with
    | plain h _ => cases h
    | fn _ _ xs hl hx =>
      have:xs = #[]:=by
       apply Array.eq_empty_of_size_eq_zero
       simpa using hl.symm
      rw [this]
   obtain ⟨hl,hx⟩:=largs_rel hR ids has hvs
   have hexec:(execOp a.eval o).run P w = .ok (.enter fid (args.map a.eval)) w:=by
    simp [execOp,ho,resolve,e1,Deferred.ofValue,invoke,callFunc,hfn]
    simp at hname
    cases hb:fn.body with
    | none => simp [hb] at hbody
    | some c => simp [hname]
   intro K Q hK
   unfold Oper.wp
   rw [hexec,Oper.upon_enter]
   have hcalls:=hsim.run w (lentG S g w ids) (args.toList.map a.eval) ⟨fun i o h => by simp at h,fun i o h => by simp at h⟩ (by simp;simpa using hl) hx
   have hargs:(args.toList.map a.eval).toArray = args.map a.eval:=by
    apply Array.ext'
    simp
   rw [hargs] at hcalls
   refine hcalls.mono fun e w' ⟨x,g',he,hext,hG,hret⟩ => ?_
   subst he
   have hno:∀ b,¬ ownB (lentG S g w ids) b:=fun b => noCell_own g b
   have hold:∀ b,b < w.heap.size → w'.heap[b]? = w.heap[b]?:=fun b hb => (hext.old b hb (fun i hi => absurd hi (by simp)) (hno b)).1
   let m':Nat → Nat:=fun b => if b < w.heap.size then g.m b else g'.m b
   have hext2:Ext w (noCell g) 0 w' { g' with m:=m' } G'.length :=
    ⟨hext.os,hext.tape,hext.output,hext.size,hext.nle,hext.γ,hext.γnew,fun b hb _ _ => ⟨hold b hb,if_pos hb⟩,fun b hb hw => absurd hw (noCell_own g b),fun b p q hb h => absurd (hext.cold b p q hb h) (hno b)⟩
   obtain ⟨gn,r1,_,_⟩:=hR.alone hext2 m' (fun b hb => if_pos hb)
   refine hK gn _ _ (r1.put hd ?_)
   obtain ⟨ys,p1,p2,p3⟩:=hret
   have sc:∀ (k:Nat) (v:V) (y:Value),r.comps[k]? = some v → v.sc = true → ys[k]? = some y → XRel (S.cx gn w') v y:=fun k v y hv hs hy => sc_any hs (p3 k v y hv hy).1 _
   cases r with
   | tuple vs =>
     simp only [V.scal,List.all_eq_true] at hscal
     have hp:x = .tuple ys.toArray:=p1
     rw [hp]
     exact .tuple _ _ (by have:=p2;simp [V.comps] at this;simpa using this.symm) fun i v y hv hy => sc i v y hv (hscal v (List.mem_of_getElem? hv)) (by simpa using hy)
   | agg vs =>
     simp only [V.scal,List.all_eq_true] at hscal
     have hp:x = .agg ys.toArray:=p1
     rw [hp]
     exact .agg _ _ (by have:=p2;simp [V.comps] at this;simpa using this.symm) fun i v y hv hy => sc i v y hv (hscal v (List.mem_of_getElem? hv)) (by simpa using hy)
   | _ =>
     have hp:ys = [x]:=p1
     exact sc 0 _ x rfl hscal (by rw [hp];rfl)
  ·cases hrun
 ·cases hrun
end
end Go.Vm
