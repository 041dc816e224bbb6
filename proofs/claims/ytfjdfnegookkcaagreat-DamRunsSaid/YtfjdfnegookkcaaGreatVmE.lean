/- The value machine, 14: a region whose order is drawn. -/
import Derived.Test.YtfjdfnegookkcaaGreatVmD
namespace Go.Vm
set_option linter.all false
noncomputable def VOp.eff (C:CallF) (S:St) (o:VOp):Option Out :=
 match o.guard with
 | none => o.op.eff C S
 | some (g,want) => match look g S.env with
   | some (.bool b) => bif b == want then o.op.eff C S else some (.val .undef)
   | some .undef => some (.val .undef)
   | _ => none
theorem vrun_eff (C:CallF) (S:St) (o:VOp):o.run C S = (o.eff C S).map fun u => u.app o.dst S:=by
 unfold VOp.run VOp.eff
 cases o.guard with
 | none => exact run_eff C o.dst S o.op
 | some q =>
   obtain ⟨g,want⟩:=q
   simp only
   cases look g S.env with
   | none => rfl
   | some v =>
     cases v <;> try rfl
     simp only [map_bif,Option.map_some,app_val,run_eff]
section
variable {S S':St} {C:CallF}
theorem veff_agree {o:VOp} (h:AgreeOn S S' o.rd):o.eff C S = o.eff C S':=by
 unfold VOp.rd at h
 unfold VOp.eff
 cases hg:o.guard with
 | none => rw [hg] at h;exact eff_agree h.right
 | some q =>
   obtain ⟨g,want⟩:=q
   rw [hg] at h
   have h1:look g S.env = look g S'.env:=h.left (.e g) (by simp)
   simp only [h1,eff_agree (C:=C) h.right]
theorem veff_within {o:VOp} {u:Out} (h:o.eff C S = some u):Within u o.op.wr:=by
 have val:∀ v K,Within (Out.val v) K:=fun v K => ⟨by simp [Out.val],by simp [Out.val],by simp [Out.val]⟩
 unfold VOp.eff at h
 split at h
 ·exact eff_within h
 ·rename_i g want _
  split at h
  ·rename_i b _
   cases hb:b == want with
   | true => simp only [hb,cond_true] at h;exact eff_within h
   | false => simp only [hb,cond_false] at h;cases h;exact val _ _
  ·cases h;exact val _ _
  ·cases h
theorem stays {o:VOp} {u:Out} (h:o.eff C S = some u) {T:St} {k:Key} (hk:k ∉ o.wr):same (u.app o.dst T) T k :=
 within_stays (veff_within h) hk
def indep (x y:VOp):Bool:=x.wr.all (fun k => !(y.rd ++ y.wr).contains k) && y.wr.all (fun k => !x.rd.contains k)
theorem indep_spec {x y:VOp} (h:indep x y = true):(∀ k ∈ x.wr,k ∉ y.rd) ∧ (∀ k ∈ x.wr,k ∉ y.wr) ∧ (∀ k ∈ y.wr,k ∉ x.rd):=by
 simp only [indep,Bool.and_eq_true,List.all_eq_true,Bool.not_eq_true',List.contains_eq_mem,decide_eq_false_iff_not,List.mem_append,not_or] at h
 exact ⟨fun k hk => (h.1 k hk).1,fun k hk => (h.1 k hk).2,h.2⟩
theorem swap {x y:VOp} (hi:indep x y = true) {S1 S2:St} (h1:x.run C S = some S1) (h2:y.run C S1 = some S2):∃ T1 T2,y.run C S = some T1 ∧ x.run C T1 = some T2 ∧ Alike S2 T2:=by
 obtain ⟨i1,i2,i3⟩:=indep_spec hi
 rw [vrun_eff] at h1 h2
 cases hx:x.eff C S with
 | none => rw [hx] at h1;cases h1
 | some u =>
   rw [hx] at h1
   simp only [Option.map_some,Option.some.injEq] at h1
   subst h1
   cases hy:y.eff C (u.app x.dst S) with
   | none => rw [hy] at h2;cases h2
   | some v =>
     rw [hy] at h2
     simp only [Option.map_some,Option.some.injEq] at h2
     subst h2
     have hy':y.eff C S = some v:=by
      rw [← hy]
      exact veff_agree fun k hk => same_symm (stays hx fun hw => i1 k hw hk)
     have hx':x.eff C (v.app y.dst S) = some u:=by
      rw [← hx]
      exact veff_agree fun k hk => stays hy' fun hw => i3 k hw hk
     refine ⟨v.app y.dst S,u.app x.dst (v.app y.dst S),by rw [vrun_eff,hy'];rfl,by rw [vrun_eff,hx'];rfl,fun k => ?_⟩
     by_cases hk:k ∈ y.wr
     ·have hkx:k ∉ x.wr:=fun h => i2 k h hk
      exact same_trans (app_same (stays hx hkx)) (same_symm (stays hx' hkx))
     ·exact same_trans (stays hy hk) (app_same (same_symm (stays hy' hk)))
theorem run_alike (o:VOp) {S1:St} (h:Alike S S') (h1:o.run C S = some S1):∃ S2,o.run C S' = some S2 ∧ Alike S1 S2:=by
 rw [vrun_eff] at h1
 cases hx:o.eff C S with
 | none => rw [hx] at h1;cases h1
 | some u =>
   rw [hx] at h1
   simp only [Option.map_some,Option.some.injEq] at h1
   subst h1
   refine ⟨u.app o.dst S',?_,fun k => app_same (h k)⟩
   rw [vrun_eff,← veff_agree (C:=C) (o:=o) (S:=S) (S':=S') (fun k _ => h k),hx]
   rfl
theorem ops_alike:∀ (l:List VOp) {S S' T:St},Alike S S' → runOps C l S = some T → ∃ T',runOps C l S' = some T' ∧ Alike T T'
 | [],S,S',T,h,h1 => by simp only [runOps,Option.some.injEq] at h1;subst h1;exact ⟨S',rfl,h⟩
 | o :: l,S,S',T,h,h1 => by
   simp only [runOps] at h1
   split at h1
   ·rename_i S1 hs
    obtain ⟨S2,h2,h3⟩:=run_alike o h hs
    obtain ⟨T',h4,h5⟩:=ops_alike l h3 h1
    exact ⟨T',by simp only [runOps,h2];exact h4,h5⟩
   ·cases h1
theorem runOps_append:∀ (l r:List VOp) (S:St),runOps C (l ++ r) S = (runOps C l S).bind (runOps C r)
 | [],r,S => rfl
 | o :: l,r,S => by
   simp only [List.cons_append,runOps]
   cases o.run C S with
   | none => rfl
   | some S' => exact runOps_append l r S'
theorem to_front:∀ (l:List VOp) {x:VOp} {S T:St},(∀ y ∈ l,indep y x = true) → runOps C (l ++ [x]) S = some T → ∃ T',runOps C (x :: l) S = some T' ∧ Alike T T'
 | [],x,S,T,_,h => ⟨T,h,fun k => same_refl T k⟩
 | y :: l,x,S,T,hi,h => by
   simp only [List.cons_append,runOps] at h
   split at h
   ·rename_i S1 h1
    obtain ⟨T1,h2,h3⟩:=to_front l (fun z hz => hi z (List.mem_cons_of_mem _ hz)) h
    simp only [runOps] at h2
    split at h2
    ·rename_i S2 h4
     obtain ⟨U1,U2,h5,h6,h7⟩:=swap (hi y List.mem_cons_self) h1 h4
     obtain ⟨T2,h8,h9⟩:=ops_alike l h7 h2
     exact ⟨T2,by simp only [runOps,h5,h6];exact h8,fun k => same_trans (h3 k) (h9 k)⟩
    ·cases h2
   ·cases h
theorem pull {l r:List VOp} {x:VOp} {T:St} (hi:∀ y ∈ l,indep y x = true) (h:runOps C (l ++ x :: r) S = some T):∃ S1 T',x.run C S = some S1 ∧ runOps C (l ++ r) S1 = some T' ∧ Alike T T':=by
 rw [show l ++ x :: r = (l ++ [x]) ++ r from by simp,runOps_append] at h
 cases h1:runOps C (l ++ [x]) S with
 | none => rw [h1] at h;cases h
 | some U =>
   rw [h1] at h
   obtain ⟨U',h2,h3⟩:=to_front l hi h1
   obtain ⟨T',h4,h5⟩:=ops_alike r h3 h
   simp only [runOps] at h2
   split at h2
   ·rename_i S1 h6
    refine ⟨S1,T',h6,?_,h5⟩
    rw [runOps_append,h2]
    exact h4
   ·cases h2
end
section
variable {P:Program} {E:Entry} {g g':Gh} {S S':St} {a:Act} {w w':World} {C:CallF}
theorem R.alike (hR:R E g S a w) (h:Alike S S'):R E g S' a w:=by
 have hg:S.glob = S'.glob:=h .g
 have ht:∀ f,look f S.toks = look f S'.toks:=fun f => h (.t f)
 have hcx:∀ v x,XRel (S.cx g w) v x → XRel (S'.cx g w) v x:=fun v x hx => by
  have le:Le (S.cx g w) (S'.cx g w):=⟨Nat.le_refl _,fun _ _ _ _ h => h,fun _ _ => Nat.le_refl _,by simp [St.cx,hg],fun _ _ => rfl⟩
  refine XRel.mono le hx fun d => .inl ⟨rfl,rfl,fun k hk => ⟨k,(ht d).trans (show look d S'.toks = some k from hk),Nat.le_refl _,fun _ => ⟨rfl,fun _ _ => ⟨rfl,fun c _ h => ⟨c,h,rfl⟩⟩⟩⟩⟩
 refine ⟨fun s v hs => ?_,fun id cs ho => ?_,fun f k b hf hb => hR.toks f k b ((ht f).trans hf) hb,hg ▸ hR.glob,hR.defers,hR.tsz,hg ▸ hR.same⟩
 ·obtain ⟨x,h1,h2⟩:=hR.env s v ((h (.e s)).trans hs)
  exact ⟨x,h1,hcx v x h2⟩
 ·obtain ⟨h1,h2,h3,c,e,h4,hcp,h5⟩:=hR.objs id cs ((h (.o id)).trans ho)
  refine ⟨h1,h2,h3,c,e,h4,hcp,fun j v hj => ?_⟩
  obtain ⟨h6,y,h7,h8⟩:=h5 j v hj
  exact ⟨h6,y,h7,hcx v y h8⟩
def reach (os:Array Oper):Nat → Nat → Nat → Bool
 | 0,_,_ => false
 | n + 1,i,y => match os[i]? with
   | some o => o.after.toList.any fun e => Region.binds .any e && (e.on == y || reach os n e.on y)
   | none => false
def okDraw (os:Array Oper) (vs:List VOp):Bool :=
 (List.range os.size).all fun i => (match os[i]? with | some o => o.after.toList.all fun e => !Region.binds .any e || Nat.blt e.on i | none => true) &&
  (List.range i).all fun y => (match vs[y]?,vs[i]? with | some u,some v => indep u v || reach os os.size i y | _,_ => false)
theorem reach_listed {os:Array Oper} {listed:Array Bool} (hdown:∀ (j:Nat) o,os[j]? = some o → listed.getD j true = true → ∀ e ∈ o.after,Region.binds .any e = true → listed.getD e.on false = true) :
  ∀ (n i y:Nat) (o:Oper),os[i]? = some o → (∀ e ∈ o.after,Region.binds .any e = true → listed.getD e.on false = true) → reach os n i y = true → listed.getD y false = true
 | 0,_,_,_,_,_,h => by simp [reach] at h
 | n + 1,i,y,o,ho,hall,h => by
   simp only [reach,ho,List.any_eq_true,Bool.and_eq_true,Bool.or_eq_true,beq_iff_eq] at h
   obtain ⟨e,he,hb,h⟩:=h
   have hm:e ∈ o.after:=by simpa using he
   rcases h with h | h
   ·rw [← h];exact hall e hm hb
   ·cases ho':os[e.on]? with
    | none => cases n <;> simp [reach,ho'] at h
    | some o' =>
      refine reach_listed hdown n e.on y o' ho' (hdown e.on o' ho' ?_) h
      have:=hall e hm hb
      rcases Nat.lt_or_ge e.on listed.size with h1 | h1
      ·simpa [h1] using this
      ·simp [Array.getElem?_eq_none h1] at this
def unlisted (n:Nat) (listed:Array Bool):List Nat:=(List.range n).filter fun j => !listed.getD j true
theorem split_filter {n:Nat} {p:Nat → Bool} {i:Nat} (hi:i < n) (hp:p i = true):(List.range n).filter p = (List.range i).filter p ++ i :: ((List.range' (i + 1) (n - (i + 1))).filter p):=by
 have h1:List.range n = List.range i ++ i :: List.range' (i + 1) (n - (i + 1)):=by
  rw [List.range_eq_range',List.range_eq_range']
  have:List.range' 0 n = List.range' 0 i ++ List.range' i (n - i):=by
   have:=List.range'_append (s:=0) (m:=i) (n:=n - i) (step:=1)
   simp only [Nat.one_mul,Nat.zero_add] at this
   rw [this]
   congr 1
   omega
  rw [this,show n - i = (n - (i + 1)) + 1 from by omega,List.range'_succ]
 rw [h1,List.filter_append,List.filter_cons,if_pos hp]
def sel (vs:List VOp) (l:List Nat):List VOp:=l.filterMap (vs[·]?)
theorem drawn_order {ps:List (Nat × Nat)} (hps:∀ f k,look f ps = some k → MutOK P k f) {os:Array Oper} {vs:List VOp} {ids:List Nat} {Q:Exit → Act → World → Prop} (hok:okOps P ps E.nt os os.toList vs = true) (hnm:okNames vs ids = true) (hdr:okDraw os vs = true) (hC:CalleeOK P C) {Sn:St}
  (hQ:∀ g a w,R E g Sn a w → Q .normal a w):∀ (fuel:Nat) (listed:Array Bool) (l:List Nat) (S T:St) (a:Act) (w:World),listed.size = os.size → (unlisted os.size listed).length = fuel →
   (∀ (j:Nat) o,os[j]? = some o → listed.getD j true = true → ∀ e ∈ o.after,Region.binds .any e = true → listed.getD e.on false = true) →
   (∀ j,j ∈ l → listed.getD j true = true) → Inv E vs ids l S a w → runOps C (sel vs (unlisted os.size listed)) S = some T → Alike T Sn → wpAny P .any os Q fuel listed a w:=by
 have hlen:=(okOps_spec hok).1
 simp only [Array.length_toList] at hlen
 simp only [okDraw,List.all_eq_true,List.mem_range,Bool.and_eq_true] at hdr
 have done:∀ (listed:Array Bool) (l:List Nat) (S T:St) (a:Act) (w:World),listed.size = os.size → Region.ready .any os listed = [] → Inv E vs ids l S a w → runOps C (sel vs (unlisted os.size listed)) S = some T → Alike T Sn → Q .normal a w:=by
  intro listed l S T a w hsz hready hinv hrun hal
  have hempty:unlisted os.size listed = []:=by
   cases hu:unlisted os.size listed with
   | nil => rfl
   | cons i r =>
     exfalso
     have hmem:∀ j,j ∈ unlisted os.size listed ↔ j < os.size ∧ listed.getD j true = false:=fun j => by simp [unlisted]
     have least:∃ i,i ∈ unlisted os.size listed ∧ ∀ j,j < i → j ∉ unlisted os.size listed:=by
      have:∀ n,∀ i,i ≤ n → i ∈ unlisted os.size listed → ∃ i,i ∈ unlisted os.size listed ∧ ∀ j,j < i → j ∉ unlisted os.size listed:=by
       intro n
       induction n with
       | zero => intro i hi hm;exact ⟨i,hm,fun j hj => by omega⟩
       | succ n ih =>
         intro i hi hm
         by_cases h:∃ j,j < i ∧ j ∈ unlisted os.size listed
         ·obtain ⟨j,h1,h2⟩:=h
          exact ih j (by omega) h2
         ·exact ⟨i,hm,fun j hj hjm => h ⟨j,hj,hjm⟩⟩
      exact this i i (Nat.le_refl _) (by rw [hu];exact List.mem_cons_self)
     obtain ⟨i,hi,hmin⟩:=least
     obtain ⟨hlt,hun⟩:=(hmem i).1 hi
     have hin:i ∈ Region.ready .any os listed:=by
      rw [mem_ready]
      refine ⟨hun,os[i],Array.getElem?_eq_getElem hlt,fun e he hb => ?_⟩
      have h1:=(hdr i hlt).1
      rw [Array.getElem?_eq_getElem hlt] at h1
      simp only [List.all_eq_true,Array.mem_toList_iff] at h1
      have h0:=h1 e he
      rw [hb] at h0
      have h2:e.on < i:=by simpa using h0
      have h3:=hmin e.on h2
      rw [hmem] at h3
      have h4:e.on < listed.size:=by omega
      cases hl:listed.getD e.on false with
      | true => rfl
      | false =>
        exfalso
        refine h3 ⟨by omega,?_⟩
        simp [h4] at hl ⊢
        exact hl
     rw [hready] at hin
     cases hin
  rw [hempty] at hrun
  simp only [sel,List.filterMap_nil,runOps,Option.some.injEq] at hrun
  subst hrun
  obtain ⟨⟨g,hR⟩,_⟩:=hinv
  exact hQ g a w (hR.alike hal)
 intro fuel
 induction fuel with
 | zero =>
   intro listed l S T a w hsz hf hdown hl hinv hrun hal
   have hready:Region.ready .any os listed = []:=by
    have hun:unlisted os.size listed = []:=List.length_eq_zero_iff.1 hf
    cases hr:Region.ready .any os listed with
    | nil => rfl
    | cons i r =>
      exfalso
      have:i ∈ Region.ready .any os listed:=by rw [hr];exact List.mem_cons_self
      rw [mem_ready] at this
      obtain ⟨h1,o,ho,_⟩:=this
      have hlt:i < os.size:=(Array.getElem?_eq_some_iff.1 ho).1
      have:i ∈ unlisted os.size listed:=by simp [unlisted,hlt];simpa using h1
      rw [hun] at this
      cases this
   exact ⟨hready,done listed l S T a w hsz hready hinv hrun hal⟩
 | succ fuel ih =>
   intro listed l S T a w hsz hf hdown hl hinv hrun hal
   refine ⟨fun hready => done listed l S T a w hsz hready hinv hrun hal,fun i hi => ?_⟩
   rw [mem_ready] at hi
   obtain ⟨hun,o,ho,hall⟩:=hi
   have hlt:i < os.size:=(Array.getElem?_eq_some_iff.1 ho).1
   have hiv:i < vs.length:=by omega
   have hil:i ∉ l:=fun h => by rw [hl i h] at hun;cases hun
   have hsplit:=split_filter (p:=fun j => !listed.getD j true) hlt (by rw [hun];rfl)
   have hsel:sel vs (unlisted os.size listed) = sel vs ((List.range i).filter fun j => !listed.getD j true) ++ vs[i] :: sel vs ((List.range' (i + 1) (os.size - (i + 1))).filter fun j => !listed.getD j true):=by
    unfold unlisted
    rw [hsplit]
    simp only [sel,List.filterMap_append,List.filterMap_cons,List.getElem?_eq_getElem hiv]
   have hindep:∀ y ∈ sel vs ((List.range i).filter fun j => !listed.getD j true),indep y vs[i] = true:=by
    intro y hy
    obtain ⟨j,hj,hjy⟩:=List.mem_filterMap.1 hy
    simp only [List.mem_filter,List.mem_range,Bool.not_eq_true'] at hj
    have h1:=(hdr i hlt).2 j hj.1
    rw [hjy,List.getElem?_eq_getElem hiv] at h1
    simp only [Bool.or_eq_true] at h1
    rcases h1 with h1 | h1
    ·exact h1
    ·exfalso
     have:=reach_listed hdown os.size i j o ho hall h1
     have hjs:j < listed.size:=by omega
     simp [hjs] at this hj
     rw [this] at hj
     exact absurd hj.2 (by simp)
   rw [hsel] at hrun
   obtain ⟨S1,T',h1,h2,h3⟩:=pull hindep hrun
   refine inv_step hps hok hnm ho (List.getElem?_eq_getElem hiv) hil hC hinv h1 fun a' w' hinv' => ?_
   have hset:∀ j,(listed.setIfInBounds i true).getD j true = if j = i then true else listed.getD j true:=fun j => by
    by_cases hji:j = i
    ·subst hji;simp [hsz,hlt]
    ·rw [if_neg hji,getD_set_ne true (fun e => hji e.symm)]
   have hset':∀ j,listed.getD j false = true → (listed.setIfInBounds i true).getD j false = true:=fun j h => getD_set_true h
   have hrest:unlisted os.size (listed.setIfInBounds i true) = ((List.range i).filter fun j => !listed.getD j true) ++ ((List.range' (i + 1) (os.size - (i + 1))).filter fun j => !listed.getD j true):=by
    have h4:unlisted os.size (listed.setIfInBounds i true) = ((List.range os.size).filter fun j => !listed.getD j true).filter fun j => decide (j ≠ i):=by
     unfold unlisted
     rw [List.filter_filter]
     apply List.filter_congr
     intro j _
     rw [hset]
     by_cases hji:j = i <;> simp [hji]
    rw [h4,hsplit,List.filter_append,List.filter_cons,if_neg (by simp)]
    congr 1
    ·apply List.filter_eq_self.2
     intro j hj
     simp only [List.mem_filter,List.mem_range] at hj
     simp;omega
    ·apply List.filter_eq_self.2
     intro j hj
     simp only [List.mem_filter,List.mem_range'_1] at hj
     simp;omega
   refine ih (listed.setIfInBounds i true) (i :: l) S1 T' a' w' (by simp [hsz]) ?_ ?_ ?_ hinv' ?_ (fun k => same_trans (same_symm (h3 k)) (hal k))
   ·have:(unlisted os.size listed).length = fuel + 1:=hf
    unfold unlisted at this
    rw [hsplit] at this
    rw [hrest]
    simp at this ⊢
    omega
   ·intro j o' ho' hj e he hb
    rw [hset] at hj
    by_cases hji:j = i
    ·subst hji
     rw [ho] at ho'
     cases ho'
     exact hset' _ (hall e he hb)
    ·rw [if_neg hji] at hj
     exact hset' _ (hdown j o' ho' hj e he hb)
   ·intro j hj
    rw [hset]
    rcases List.mem_cons.1 hj with h | h
    ·rw [if_pos h]
    ·split
     ·rfl
     ·exact hl j h
   ·rw [hrest]
    simp only [sel,List.filterMap_append]
    exact h2
end
end Go.Vm
