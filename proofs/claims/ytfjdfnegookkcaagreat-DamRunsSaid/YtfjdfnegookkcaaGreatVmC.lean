/- The value machine, 12: regions, in whatever order. -/
import Derived.Test.YtfjdfnegookkcaaGreatVmB
namespace Go.Vm
set_option linter.all false
def okGuard (os:Array Oper) (o:Oper) (v:VOp):Bool :=
 match o.guard,v.guard with
 | none,none => true
 | some (j,w),some (s,w') => (os[j]?).bind (·.dst) == some s && w == w'
 | _,_ => false
def okVop (P:Program) (ps:List (Nat × Nat)) (nt:Nat) (os:Array Oper) (o:Oper) (v:VOp):Bool :=
 v.dst == o.dst && (match o.dst with | some d => Nat.blt d nt | none => true) && v.op.clean && okOp P ps o v.op && okGuard os o v
def CalleeOK (P:Program) (C:CallF):Prop:=∀ f args G r G',C f args G = some (r,G') → CallSim P f args G r G'
section
variable {P:Program} {E:Entry} {g g':Gh} {S S':St} {a:Act} {w w':World} {d:Nat} {C:CallF}
theorem vop_step {ps:List (Nat × Nat)} (hps:∀ f k,look f ps = some k → MutOK P k f) {os:Array Oper} {i:Nat} {o:Oper} {v:VOp} {K:Act → World → Prop} {Q:Exit → Act → World → Prop} (hi:os[i]? = some o) (hok:okVop P ps E.nt os o v = true) (hC:CalleeOK P C)
  (hn:∀ n ∈ v.op.names,S.noMen n) (hR:R E g S a w) (hrun:v.run C S = some S') (hK:∀ g' a' w',R E g' S' a' w' → K a' w'):wpOp P os Q i K a w:=by
 simp only [okVop,Bool.and_eq_true,beq_iff_eq] at hok
 obtain ⟨⟨⟨⟨h1,h2⟩,h3⟩,h4⟩,h5⟩:=hok
 have hd:∀ d,o.dst = some d → d < E.nt:=fun d hd => by
  rw [hd] at h2
  exact Nat.le_of_ble_eq_true h2
 have hdo:∀ {S'},v.op.run C v.dst S = some S' → Does P E o S S' a w:=fun hrun => by
  rw [h1] at hrun
  refine op_does hps h4 hC hn (fun id x u hvo hev => ?_) hR hd hrun
  have hcl:=h3
  rw [hvo] at hcl
  exact ev_men (hn id (by rw [hvo];simp [VO.names])) hcl hev
 unfold wpOp
 simp only [hi]
 unfold VOp.run at hrun
 unfold okGuard at h5
 unfold Region.wanted
 split at h5
 ·rename_i hg1 hg2
  rw [hg2] at hrun
  simp only [hg1,if_true]
  exact .inl (hdo hrun K Q hK)
 ·rename_i j want s want' hg1 hg2
  simp only [Bool.and_eq_true,beq_iff_eq] at h5
  obtain ⟨hs,rfl⟩:=h5
  rw [hg2] at hrun
  simp only at hrun
  simp only [hg1]
  split at hrun
  ·rename_i b hb
   obtain ⟨x,hx,hr⟩:=hR.env s _ hb
   have e:=rel_bool hr
   subst e
   have hy:yielded os a.tmps j = some b:=by simp [yielded,hs,hx]
   rw [hy]
   cases hbw:b == want with
   | true =>
     have:=eq_of_beq hbw
     subst this
     simp only [hbw,cond_true] at hrun
     simp only [beq_self_eq_true,if_true]
     exact .inl (hdo hrun K Q hK)
   | false =>
     simp only [hbw,cond_false] at hrun
     cases hrun
     have:(some b == some want) = false:=by simpa using hbw
     rw [this]
     simp only [Bool.false_eq_true,if_false]
     rw [h1] at hK
     exact hK g _ _ (hR.put hd .undef)
  ·rename_i hb
   obtain ⟨x,hx,hr⟩:=hR.env s _ hb
   have e:x = undef:=by
    cases hr with
    | undef => rfl
    | plain h _ => cases h
   subst e
   have hy:yielded os a.tmps j = none:=by simp [yielded,hs,hx,undef]
   rw [hy]
   cases hrun
   simp only [Option.none_beq_some,Bool.false_eq_true,if_false]
   rw [h1] at hK
   exact hK g _ _ (hR.put hd .undef)
  ·cases hrun
 ·cases h5
theorem vop_noMen {ps:List (Nat × Nat)} {o:Oper} {os:Array Oper} {v:VOp} (hok:okVop P ps E.nt os o v = true) (hC:CalleeOK P C) (hR:R E g S a w) (hn:S.noMen d) (hd:d ∉ v.op.names) (hrun:v.run C S = some S'):S'.noMen d:=by
 simp only [okVop,Bool.and_eq_true,beq_iff_eq] at hok
 obtain ⟨⟨⟨⟨h1,h2⟩,h3⟩,h4⟩,h5⟩:=hok
 have hop:∀ {S'},v.op.run C v.dst S = some S' → S'.noMen d:=fun h => op_noMen h3 (fun f args G r G' hc => (hC f args G r G' hc).ret) hR hn hd h
 unfold VOp.run at hrun
 split at hrun
 ·exact hop hrun
 ·rename_i sl want _
  split at hrun
  ·rename_i b hb
   cases hbw:b == want with
   | true => simp only [hbw,cond_true] at hrun;exact hop hrun
   | false => simp only [hbw,cond_false] at hrun;cases hrun;exact noMen_put hn rfl
  ·cases hrun;exact noMen_put hn rfl
  ·cases hrun
def Inv (E:Entry) (vs:List VOp) (ids:List Nat) (l:List Nat) (S:St) (a:Act) (w:World):Prop :=
 (∃ g,R E g S a w) ∧ ∀ d ∈ ids,(∀ k ∈ l,∀ v,vs[k]? = some v → d ∉ v.op.names) → S.noMen d
def namesOf (vs:List VOp):List Nat:=vs.flatMap (·.op.names)
def okNames (vs:List VOp) (ids:List Nat):Bool:=decide (namesOf vs).Nodup && (namesOf vs).all (ids.contains ·)
def okOps (P:Program) (ps:List (Nat × Nat)) (nt:Nat) (os:Array Oper):List Oper → List VOp → Bool
 | [],[] => true
 | o :: r,v :: vs => okVop P ps nt os o v && okOps P ps nt os r vs
 | _,_ => false
theorem okOps_spec {ps:List (Nat × Nat)} {nt:Nat} {os:Array Oper}:∀ {r:List Oper} {vs:List VOp},okOps P ps nt os r vs = true → vs.length = r.length ∧ ∀ (i:Nat) o v,r[i]? = some o → vs[i]? = some v → okVop P ps nt os o v = true
 | [],[],_ => by simp
 | [],_ :: _,h => by simp [okOps] at h
 | _ :: _,[],h => by simp [okOps] at h
 | o :: r,v :: vs,h => by
   simp only [okOps,Bool.and_eq_true] at h
   obtain ⟨p,q⟩:=okOps_spec h.2
   refine ⟨by simp [p],fun i o' v' ho hv => ?_⟩
   cases i with
   | zero => simp at ho hv;subst ho;subst hv;exact h.1
   | succ i => exact q i o' v' (by simpa using ho) (by simpa using hv)
theorem names_apart:∀ {vs:List VOp},(namesOf vs).Nodup → ∀ {i k:Nat} {u v:VOp},vs[i]? = some u → vs[k]? = some v → i ≠ k → ∀ n ∈ u.op.names,n ∉ v.op.names
 | [],_,i,k,u,v,hi,_,_,_,_ => by simp at hi
 | x :: vs,hnd,i,k,u,v,hi,hk,hne,n,hn => by
   simp only [namesOf,List.flatMap_cons,List.nodup_append] at hnd
   obtain ⟨h1,h2,h3⟩:=hnd
   cases i with
   | zero =>
     cases k with
     | zero => exact absurd rfl hne
     | succ k =>
       simp at hi hk
       subst hi
       intro hv
       exact h3 n hn n (List.mem_flatMap.2 ⟨v,List.mem_of_getElem? hk,hv⟩) rfl
   | succ i =>
     cases k with
     | zero =>
       simp at hi hk
       subst hk
       intro hv
       exact h3 n hv n (List.mem_flatMap.2 ⟨u,List.mem_of_getElem? hi,hn⟩) rfl
     | succ k => exact names_apart h2 (by simpa using hi) (by simpa using hk) (by omega) n hn
theorem inv_step {ps:List (Nat × Nat)} (hps:∀ f k,look f ps = some k → MutOK P k f) {os:Array Oper} {vs:List VOp} {ids l:List Nat} {i:Nat} {o:Oper} {v:VOp} {K:Act → World → Prop} {Q:Exit → Act → World → Prop} (hok:okOps P ps E.nt os os.toList vs = true) (hnm:okNames vs ids = true)
  (hi:os[i]? = some o) (hv:vs[i]? = some v) (hil:i ∉ l) (hC:CalleeOK P C) (hinv:Inv E vs ids l S a w) (hrun:v.run C S = some S')
  (hK:∀ a' w',Inv E vs ids (i :: l) S' a' w' → K a' w'):wpOp P os Q i K a w:=by
 obtain ⟨⟨g,hR⟩,hn⟩:=hinv
 simp only [okNames,Bool.and_eq_true,decide_eq_true_eq,List.all_eq_true,List.contains_eq_mem] at hnm
 have hov:=(okOps_spec hok).2 i o v (by simpa using hi) hv
 refine vop_step hps hi hov hC (fun n hnv => ?_) hR hrun fun g' a' w' hR' => hK a' w' ⟨⟨g',hR'⟩,fun d hd hfree => ?_⟩
 ·refine hn n (hnm.2 n (List.mem_flatMap.2 ⟨v,List.mem_of_getElem? hv,hnv⟩)) (fun k hk u hu => ?_)
  exact names_apart hnm.1 hv hu (fun e => hil (e ▸ hk)) n hnv
 ·exact vop_noMen hov hC hR (hn d hd fun k hk u hu => hfree k (List.mem_cons_of_mem _ hk) u hu) (hfree i List.mem_cons_self v hv) hrun
theorem text_order {ps:List (Nat × Nat)} (hps:∀ f k,look f ps = some k → MutOK P k f) {os:Array Oper} {vs:List VOp} {ids:List Nat} {Q:Exit → Act → World → Prop} (hok:okOps P ps E.nt os os.toList vs = true) (hnm:okNames vs ids = true) (hC:CalleeOK P C) {Sn:St}
  (hQ:∀ g a w,R E g Sn a w → Q .normal a w):∀ (n k:Nat) (S:St) (a:Act) (w:World),k + n = os.size → Inv E vs ids (List.range k) S a w → runOps C (vs.drop k) S = some Sn → wpOps P os Q (List.range' k n) a w
 | 0,k,S,a,w,hk,hinv,hrun => by
   have hlen:=(okOps_spec hok).1
   simp only [Array.length_toList] at hlen
   rw [List.drop_eq_nil_of_le (by omega)] at hrun
   simp only [runOps,Option.some.injEq] at hrun
   subst hrun
   obtain ⟨⟨g,hR⟩,_⟩:=hinv
   simp only [List.range'_zero,wpOps]
   exact hQ g a w hR
 | n + 1,k,S,a,w,hk,hinv,hrun => by
   have hlen:=(okOps_spec hok).1
   simp only [Array.length_toList] at hlen
   have hkv:k < vs.length:=by omega
   have hko:k < os.size:=by omega
   rw [List.drop_eq_getElem_cons hkv,runOps] at hrun
   split at hrun
   ·rename_i S' h1
    rw [List.range'_succ,wpOps_cons]
    refine inv_step hps hok hnm (Array.getElem?_eq_getElem hko) (List.getElem?_eq_getElem hkv) (by simp) hC hinv h1 fun a' w' hinv' => ?_
    refine text_order hps hok hnm hC hQ n (k + 1) S' a' w' (by omega) ?_ hrun
    refine ⟨hinv'.1,fun d hd hfree => hinv'.2 d hd fun j hj v hv => hfree j ?_ v hv⟩
    rcases List.mem_cons.1 hj with e | e
    ·subst e;simp
    ·simp at e ⊢;omega
   ·cases hrun
end
end Go.Vm
