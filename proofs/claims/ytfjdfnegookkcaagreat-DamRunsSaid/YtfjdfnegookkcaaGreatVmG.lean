/- The value machine, 16: code. -/
import Derived.LoopN
import Derived.WalkMore
import Derived.Test.YtfjdfnegookkcaaGreatVmF
namespace Go.Vm
set_option linter.all false
def okCode (P:Program) (ps:List (Nat × Nat)) (nt:Nat):Code → VC → Bool
 | .skip,.skip => true
 | .region _ ops draw,.region _ ids vops _ => okOps P ps nt ops ops.toList vops && okNames vops ids && (!draw || okDraw ops vops)
 | .seq a b,.seq a' b' => okCode P ps nt a a' && okCode P ps nt b b'
 | .cond c a b,.cond c' a' b' => okOpd c c' && okCode P ps nt a a' && okCode P ps nt b b'
 | .block id a,.block id' a' => id == id' && okCode P ps nt a a'
 | .loop a,.loop _ _ a' => okCode P ps nt a a'
 | .exit id,.exit id' => id == id'
 | .ret,.ret => true
 | .label _,.skip => true
 | .scope a,a' => okCode P ps nt a a'
 | _,_ => false
def toExit:VExit → Exit
 | .normal => .normal
 | .exit id => .exit id
 | .ret => .ret
section
variable {P:Program} {E:Entry} {g g':Gh} {S S':St} {a:Act} {w w':World} {C:CallF}
theorem sel_all {vs:List VOp}:∀ (n k:Nat),k + n = vs.length → sel vs (List.range' k n) = vs.drop k
 | 0,k,h => by rw [List.drop_eq_nil_of_le (by omega)];rfl
 | n + 1,k,h => by
   have hk:k < vs.length:=by omega
   have ih:=sel_all (vs:=vs) n (k + 1) (by omega)
   unfold sel at ih ⊢
   rw [List.range'_succ,List.filterMap_cons,List.getElem?_eq_getElem hk,List.drop_eq_getElem_cons hk]
   simp only [ih]
def Comes' (E:Entry) (e:VExit) (S:St):Exit → Act → World → Prop:=fun x a w => x = toExit e ∧ ∃ g,R E g S a w
theorem R.drew (hR:R E g S a w):R E g S a { w with drawn:=w.drawn + 1 } :=
 ⟨hR.env,hR.objs,hR.toks,hR.glob,hR.defers,hR.tsz,⟨hR.same.os,hR.same.tape,hR.same.output,hR.same.size,hR.same.nle,hR.same.γ,hR.same.γnew,hR.same.old,hR.same.grow,hR.same.cold⟩⟩
theorem ghosts_sim:∀ {gs:List Ghost} {S S':St} {g:Gh},R E g S a w → ghosts gs S = some S' → ∃ g',R E g' S' a w
 | [],S,S',g,hR,h => by simp only [ghosts,Option.some.injEq] at h;subst h;exact ⟨g,hR⟩
 | x :: gs,S,S',g,hR,h => by
   simp only [ghosts] at h
   split at h
   ·rename_i S1 h1
    have:∃ g',R E g' S1 a w:=by
     cases x with
     | norm s f n => exact ghost_norm hR h1
     | normCell i o f n => exact ghost_normCell hR h1
     | normLast i o f n => exact ghost_normLast hR h1
     | ren i b => exact ghost_ren hR h1
     | freezeCell i o s => exact ghost_freezeCell hR h1
     | freeze s sh => exact ghost_freeze hR h1
    obtain ⟨g1,hR1⟩:=this
    exact ghosts_sim hR1 h
   ·cases h
theorem region_sim {ps:List (Nat × Nat)} (hps:∀ f k,look f ps = some k → MutOK P k f) (hm:P.follows .mixedOrders = true) (hC:CalleeOK P C) {id:Nat} {ops:Array Oper} {draw:Bool} {gh:List Ghost} {ids:List Nat} {vops:List VOp} {keep:Keep} {n:Nat} {ve:VExit}
  (hok:okCode P ps E.nt (.region id ops draw) (.region gh ids vops keep) = true) (hR:R E g S a w) (hrun:VC.run C n (.region gh ids vops keep) S = some (ve,S')) :
  (Code.region id ops draw).wp P (Comes' E ve S') a w:=by
 simp only [okCode,Bool.and_eq_true,Bool.or_eq_true,Bool.not_eq_true'] at hok
 obtain ⟨⟨h1,h2⟩,h3⟩:=hok
 simp only [VC.run] at hrun
 split at hrun
 ·rename_i S1 hg
  split at hrun
  ·rename_i S2 hc
   split at hrun
   ·rename_i S3 hr
    cases hrun
    obtain ⟨g1,hR1⟩:=ghosts_sim hR hg
    obtain ⟨hl,hn⟩:=clean_spec hc
    have hR2:=hR1.less hl
    have hQ:∀ g a w,R E g S3 a w → Comes' E .normal (S3.keep keep) .normal a w:=fun g a w h => ⟨rfl,g,h.keep keep⟩
    cases draw with
    | false =>
      refine wp_region ?_
      rw [List.range_eq_range']
      exact text_order hps h1 h2 hC hQ ops.size 0 S2 a w (by omega) ⟨⟨g1,hR2⟩,fun d hd _ => hn d hd⟩ (by simpa using hr)
    | true =>
      have h3:okDraw ops vops = true:=by simpa using h3
      have hlen:=(okOps_spec h1).1
      simp only [Array.length_toList] at hlen
      refine wp_region_any hm ?_
      have hun:unlisted ops.size (Array.replicate ops.size false) = List.range ops.size:=by
       unfold unlisted
       apply List.filter_eq_self.2
       intro j hj
       have:=List.mem_range.1 hj
       simp [this]
      have hsel:sel vops (List.range ops.size) = vops:=by
       rw [← hlen,List.range_eq_range']
       exact sel_all vops.length 0 (by omega)
      exact drawn_order hps h1 h2 h3 hC hQ ops.size (Array.replicate ops.size false) [] S2 S3 a _ (by simp) (by rw [hun];simp)
       (fun j o ho hl => by
        have hj:j < ops.size:=(Array.getElem?_eq_some_iff.1 ho).1
        simp [hj] at hl)
       (fun j hj => by cases hj) ⟨⟨g1,hR2.drew⟩,fun d hd _ => hn d hd⟩ (by rw [hun,hsel];exact hr) (fun k => same_refl _ k)
   ·cases hrun
  ·cases hrun
 ·cases hrun
theorem iter_sim {c:Code} {body:St → Option (VExit × St)} (hb:∀ S g a w ve S1,R E g S a w → body S = some (ve,S1) → c.wp P (Comes' E ve S1) a w) :
  ∀ (n:Nat) {S S':St} {g:Gh} {a:Act} {w:World} {ve:VExit},R E g S a w → iter body n S = some (ve,S') → Code.rounds P c (Comes' E ve S') n a w
 | 0,S,S',g,a,w,ve,_,h => by simp [iter] at h
 | n + 1,S,S',g,a,w,ve,hR,h => by
   rw [rounds_succ]
   simp only [iter] at h
   split at h
   ·rename_i S1 h1
    refine wp_mono (hb S g a w _ _ hR h1) fun e a' w' he => ?_
    obtain ⟨rfl,g1,hR1⟩:=he
    exact iter_sim hb n hR1 h
   ·rename_i i S1 h1
    cases h
    refine wp_mono (hb S g a w _ _ hR h1) fun e a' w' he => ?_
    obtain ⟨rfl,g1,hR1⟩:=he
    exact ⟨rfl,g1,hR1⟩
   ·rename_i S1 h1
    cases h
    refine wp_mono (hb S g a w _ _ hR h1) fun e a' w' he => ?_
    obtain ⟨rfl,g1,hR1⟩:=he
    exact ⟨rfl,g1,hR1⟩
   ·cases h
theorem code_sim {ps:List (Nat × Nat)} (hps:∀ f k,look f ps = some k → MutOK P k f) (hm:P.follows .mixedOrders = true) (hC:CalleeOK P C) (n:Nat):∀ {c:Code} {vc:VC} {S S':St} {g:Gh} {a:Act} {w:World} {ve:VExit},okCode P ps E.nt c vc = true → R E g S a w →
  VC.run C n vc S = some (ve,S') → c.wp P (Comes' E ve S') a w:=by
 intro c
 induction c with
 | skip =>
   intro vc S S' g a w ve hok hR hrun
   cases vc <;> simp [okCode] at hok
   simp only [VC.run] at hrun
   cases hrun
   exact wp_skip ⟨rfl,g,hR⟩
 | region id ops draw =>
   intro vc S S' g a w ve hok hR hrun
   cases vc with
   | region gh ids vops keep => exact region_sim hps hm hC hok hR hrun
   | _ => simp [okCode] at hok
 | seq x y ihx ihy =>
   intro vc S S' g a w ve hok hR hrun
   cases vc with
   | seq x' y' =>
     simp only [okCode,Bool.and_eq_true] at hok
     simp only [VC.run] at hrun
     refine wp_seq ?_
     split at hrun
     ·rename_i S1 h1
      refine wp_mono (ihx hok.1 hR h1) fun e a' w' he => ?_
      obtain ⟨rfl,g1,hR1⟩:=he
      exact ihy hok.2 hR1 hrun
     ·rename_i i S1 h1
      cases hrun
      refine wp_mono (ihx hok.1 hR h1) fun e a' w' he => ?_
      obtain ⟨rfl,g1,hR1⟩:=he
      exact ⟨rfl,g1,hR1⟩
     ·rename_i S1 h1
      cases hrun
      refine wp_mono (ihx hok.1 hR h1) fun e a' w' he => ?_
      obtain ⟨rfl,g1,hR1⟩:=he
      exact ⟨rfl,g1,hR1⟩
     ·cases hrun
   | _ => simp [okCode] at hok
 | cond c x y ihx ihy =>
   intro vc S S' g a w ve hok hR hrun
   cases vc with
   | cond c' x' y' =>
     simp only [okCode,Bool.and_eq_true] at hok
     simp only [VC.run] at hrun
     split at hrun
     ·rename_i t ht
      have:=rel_bool (ev_rel hR hok.1.1 ht)
      refine wp_cond this ?_
      cases t
      ·exact ihy hok.2 hR hrun
      ·exact ihx hok.1.2 hR hrun
     ·cases hrun
   | _ => simp [okCode] at hok
 | block id x ih =>
   intro vc S S' g a w ve hok hR hrun
   cases vc with
   | block id' x' =>
     simp only [okCode,Bool.and_eq_true,beq_iff_eq] at hok
     obtain ⟨rfl,hok⟩:=hok
     simp only [VC.run] at hrun
     refine wp_block ?_
     split at hrun
     ·rename_i S1 h1
      cases hrun
      refine wp_mono (ih hok hR h1) fun e a' w' he => ?_
      obtain ⟨rfl,g1,hR1⟩:=he
      exact ⟨rfl,g1,hR1⟩
     ·rename_i i S1 h1
      refine wp_mono (ih hok hR h1) fun e a' w' he => ?_
      obtain ⟨rfl,g1,hR1⟩:=he
      show if i = id then _ else _
      by_cases hi:i = id
      ·subst hi
       simp at hrun
       obtain ⟨rfl,rfl⟩:=hrun
       rw [if_pos rfl]
       exact ⟨rfl,g1,hR1⟩
      ·have:(i == id) = false:=beq_eq_false_iff_ne.2 hi
       rw [this] at hrun
       cases hrun
       rw [if_neg hi]
       exact ⟨rfl,g1,hR1⟩
     ·rename_i S1 h1
      cases hrun
      refine wp_mono (ih hok hR h1) fun e a' w' he => ?_
      obtain ⟨rfl,g1,hR1⟩:=he
      exact ⟨rfl,g1,hR1⟩
     ·cases hrun
   | _ => simp [okCode] at hok
 | loop x ih =>
   intro vc S S' g a w ve hok hR hrun
   cases vc with
   | loop gh keep x' =>
     simp only [okCode] at hok
     simp only [VC.run] at hrun
     split at hrun
     ·rename_i S1 hg
      obtain ⟨g1,hR1⟩:=ghosts_sim hR hg
      refine wp_loop_rounds n (iter_sim (fun S g a w ve S1 hR h1 => ?_) n hR1 hrun)
      exact ih hok (hR.keep keep) h1
     ·cases hrun
   | _ => simp [okCode] at hok
 | exit id =>
   intro vc S S' g a w ve hok hR hrun
   cases vc with
   | exit id' =>
     simp only [okCode,beq_iff_eq] at hok
     subst hok
     simp only [VC.run] at hrun
     cases hrun
     exact wp_exit ⟨rfl,g,hR⟩
   | _ => simp [okCode] at hok
 | ret =>
   intro vc S S' g a w ve hok hR hrun
   cases vc with
   | ret =>
     simp only [VC.run] at hrun
     cases hrun
     exact wp_ret ⟨rfl,g,hR⟩
   | _ => simp [okCode] at hok
 | label l =>
   intro vc S S' g a w ve hok hR hrun
   cases vc <;> simp [okCode] at hok
   simp only [VC.run] at hrun
   cases hrun
   exact wp_label ⟨rfl,g,hR⟩
 | scope x ih =>
   intro vc S S' g a w ve hok hR hrun
   simp only [okCode] at hok
   refine wp_scope_straight (wp_mono (ih hok hR hrun) fun e a' w' he => ?_)
   obtain ⟨rfl,g1,hR1⟩:=he
   cases ve <;> exact ⟨rfl,g1,hR1⟩
 | _ =>
   intro vc S S' g a w ve hok hR hrun
   cases vc <;> simp [okCode] at hok
end
end Go.Vm
