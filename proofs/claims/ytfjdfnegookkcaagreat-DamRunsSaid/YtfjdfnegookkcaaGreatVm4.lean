/- The value machine, 4: the operations that only compute. -/
import Derived.Test.YtfjdfnegookkcaaGreatVm3
namespace Go.Vm
set_option linter.all false
def okVal0:Value → V → Bool
 | .int k n,.int k' n' => decide (k = k') && n == n'
 | .bool b,.bool c => b == c
 | .string s,.str l => s.data.toList == l
 | .slice none 0 0,.nils => true
 | .pointer none,.nilptr => true
 | .nilFunc,.nilfn => true
 | .map none,.nilmap => true
 | _,_ => false
def okVals:List Value → List V → Bool
 | [],[] => true
 | x :: xs,v :: vs => okVal0 x v && okVals xs vs
 | _,_ => false
def okVal:Value → V → Bool
 | .agg xs,.agg cs => okVals xs.toList cs
 | x,v => okVal0 x v
theorem okVal0_rel {X:Cx} {x:Value} {v:V} (h:okVal0 x v = true):XRel X v x ∧ v.isCell = true ∧ ∀ d,v.men d = false:=by
 unfold okVal0 at h
 split at h
 ·simp at h;obtain ⟨rfl,rfl⟩:=h
  exact ⟨.plain (.int _ _) (fun _ _ _ e => by cases e),rfl,fun _ => rfl⟩
 ·simp at h;subst h
  exact ⟨.plain (.bool _) (fun _ _ _ e => by cases e),rfl,fun _ => rfl⟩
 ·simp at h;subst h
  exact ⟨.plain (.str _) (fun _ _ _ e => by cases e),rfl,fun _ => rfl⟩
 ·exact ⟨.plain .nils (fun _ _ _ e => by cases e),rfl,fun _ => rfl⟩
 ·exact ⟨.nilptr,rfl,fun _ => rfl⟩
 ·exact ⟨.nilfn,rfl,fun _ => rfl⟩
 ·exact ⟨.nilmap,rfl,fun _ => rfl⟩
 ·cases h
theorem okVals_rel {X:Cx}:∀ {xs:List Value} {vs:List V},okVals xs vs = true → vs.length = xs.length ∧
  (∀ (i:Nat) (v:V) (x:Value),vs[i]? = some v → xs[i]? = some x → v.isCell = true ∧ (∀ d,v.men d = false) ∧ XRel X v x)
 | [],[],_ => ⟨rfl,by simp⟩
 | [],_ :: _,h => by simp [okVals] at h
 | _ :: _,[],h => by simp [okVals] at h
 | x :: xs,v :: vs,h => by
   simp only [okVals,Bool.and_eq_true] at h
   obtain ⟨h1,h2⟩:=h
   obtain ⟨hl,hr⟩:=okVals_rel (X:=X) h2
   refine ⟨by simp [hl],fun i u y hu hy => ?_⟩
   cases i with
   | zero =>
     simp at hu hy
     subst hu;subst hy
     obtain ⟨a,b,c⟩:=okVal0_rel (X:=X) h1
     exact ⟨b,c,a⟩
   | succ j => exact hr j u y (by simpa using hu) (by simpa using hy)
theorem okVal_rel {X:Cx} {x:Value} {v:V} (h:okVal x v = true):XRel X v x:=by
 unfold okVal at h
 split at h
 ·obtain ⟨hl,hr⟩:=okVals_rel (X:=X) h
  exact .agg _ _ (by simpa using hl) (fun i v x hv hx => (hr i v x hv (by simpa using hx)).2.2)
 ·exact (okVal0_rel h).1
def okOpd:Operand → Opd → Bool
 | .tmp t,.t s => t == s
 | .const v,.c u => okVal v u
 | .func f,.c (.fn g []) => f == g
 | _,_ => false
section
variable {P:Program} {E:Entry} {g:Gh} {S:St} {a:Act} {w:World}
theorem ev_rel (hR:R E g S a w) {y:Operand} {x:Opd} (ho:okOpd y x = true) {v:V} (hv:S.ev x = some v):XRel (S.cx g w) v (a.eval y):=by
 unfold okOpd at ho
 split at ho
 ·simp at ho;subst ho
  obtain ⟨z,hz,hr⟩:=hR.env _ v hv
  simp only [Act.eval]
  simpa [hz] using hr
 ·simp only [St.ev,Option.some.injEq] at hv;subst hv
  exact okVal_rel ho
 ·simp at ho;subst ho
  simp only [St.ev,Option.some.injEq] at hv;subst hv
  exact .fn _ [] #[] rfl (by simp)
 ·cases ho
theorem rel_int {X:Cx} {k:IntKind} {n:Int} {x:Value} (h:XRel X (.int k n) x):x = .int k n:=by
 cases h with | plain h _ => cases h;rfl
theorem rel_bool {X:Cx} {b:Bool} {x:Value} (h:XRel X (.bool b) x):x = .bool b:=by
 cases h with | plain h _ => cases h;rfl
theorem rel_zed {X:Cx} {n:Nat} {x:Value} (h:XRel X (.zed n) x):Zed x:=by
 cases h with
 | plain h _ => cases h
 | zed h => exact h
theorem rel_nonil {X:Cx} {n:Nat} {x:Value} (h:XRel X (.nonil n) x):∃ a cap,x = .slice (some a) 0 cap:=by
 cases h with
 | plain h _ => cases h
 | nonil n a cap => exact ⟨a,cap,rfl⟩
theorem rel_nils {X:Cx} {x:Value} (h:XRel X .nils x):x = .slice none 0 0:=by
 cases h with | plain h _ => cases h;rfl
theorem rel_str {X:Cx} {l:List UInt8} {x:Value} (h:XRel X (.str l) x):∃ s:ByteArray,x = .string s ∧ s.data.toList = l:=by
 cases h with | plain h _ => cases h;exact ⟨_,rfl,rfl⟩
theorem rel_lptr {X:Cx} {id off:Nat} {x:Value} (h:XRel X (.lptr id off) x):x = .pointer (some ⟨X.g.κ id,off,none⟩):=by
 cases h with
 | plain h _ => cases h
 | lptr => rfl
theorem rel_gptr {X:Cx} {i off:Nat} {x:Value} (h:XRel X (.gptr i off) x):x = .pointer (some ⟨X.g.γ i,off,none⟩) ∧ i < X.N:=by
 cases h with
 | plain h _ => cases h
 | gptr _ _ h => exact ⟨rfl,h⟩
theorem rel_agg {X:Cx} {cs:List V} {x:Value} (h:XRel X (.agg cs) x) :
  ∃ xs:Array Value,x = .agg xs ∧ cs.length = xs.size ∧ ∀ (i:Nat) (v:V) (y:Value),cs[i]? = some v → xs[i]? = some y → XRel X v y:=by
 cases h with
 | plain h _ => cases h
 | agg _ xs hl hx => exact ⟨xs,rfl,hl,hx⟩
theorem rel_tuple {X:Cx} {cs:List V} {x:Value} (h:XRel X (.tuple cs) x) :
  ∃ xs:Array Value,x = .tuple xs ∧ cs.length = xs.size ∧ ∀ (i:Nat) (v:V) (y:Value),cs[i]? = some v → xs[i]? = some y → XRel X v y:=by
 cases h with
 | plain h _ => cases h
 | tuple _ xs hl hx => exact ⟨xs,rfl,hl,hx⟩
theorem XRel.int {X:Cx} (k:IntKind) (n:Int):XRel X (.int k n) (.int k n):=.plain (.int k n) (fun _ _ _ e => by cases e)
theorem XRel.bool {X:Cx} (b:Bool):XRel X (.bool b) (.bool b):=.plain (.bool b) (fun _ _ _ e => by cases e)
structure PW (X:Cx) (cs:List V) (xs:List Value):Prop where
 len:cs.length = xs.length
 at_:∀ (i:Nat) (v:V) (y:Value),cs[i]? = some v → xs[i]? = some y → XRel X v y
theorem VRel.oneCell {h:Array Obj} {m:Nat → Nat} {v:V} {x:Value} (hr:VRel h m v x):x.oneCell' = true:=by
 cases hr <;> rfl
theorem rel_oneCell {X:Cx} {v:V} {x:Value} (h:XRel X v x) (hc:v.isCell = true):x.oneCell' = true:=by
 cases h with
 | plain h _ => exact h.oneCell
 | oslice h => exact h.oneCell
 | zed h => rcases h with rfl | ⟨a,rfl⟩ <;> rfl
 | undef => simp [V.isCell] at hc
 | agg => simp [V.isCell] at hc
 | tuple => simp [V.isCell] at hc
 | _ => rfl
theorem VRel.cells {h:Array Obj} {m:Nat → Nat} {v:V} {x:Value} (hr:VRel h m v x):x.cells = #[x]:=by
 cases hr <;> rfl
theorem rel_cells {X:Cx} {v:V} {x:Value} (h:XRel X v x) (hu:∀ u ∈ v.cells,u.isCell = true):PW X v.cells x.cells.toList:=by
 cases h with
 | undef => exact absurd (hu .undef (by simp [V.cells])) (by simp [V.isCell])
 | plain h ht =>
   have hx:=h.cells
   have hv:v.cells = [v]:=by cases h <;> rfl
   rw [hv,hx]
   refine ⟨rfl,fun i u y hu hy => ?_⟩
   cases i with
   | zero => simp at hu hy;subst hu;subst hy;exact .plain h ht
   | succ j => simp at hu
 | zed h =>
   refine ⟨by rcases h with rfl | ⟨a,rfl⟩ <;> rfl,fun i u y hu hy => ?_⟩
   have hx:x.cells = #[x]:=by rcases h with rfl | ⟨a,rfl⟩ <;> rfl
   rw [hx] at hy
   cases i with
   | zero => simp [V.cells] at hu hy;subst hu;subst hy;exact .zed h
   | succ j => simp [V.cells] at hu
 | nonil n a cap => exact ⟨rfl,fun i u y hu hy => by cases i with | zero => (simp [V.cells,Value.cells] at hu hy;subst hu;subst hy;exact .nonil n a cap) | succ j => simp [V.cells] at hu⟩
 | oslice h =>
   rename_i n es
   have hx:=h.cells
   have hv:(V.oslice n es).cells = [.oslice n es]:=rfl
   rw [hv,hx]
   refine ⟨rfl,fun i u y hu hy => ?_⟩
   cases i with
   | zero => simp at hu hy;subst hu;subst hy;exact .oslice h
   | succ j => simp at hu
 | agg cs xs hl hx => exact ⟨by simpa [V.cells,Value.cells] using hl,fun i u y hu hy => hx i u y hu (by simpa [Value.cells] using hy)⟩
 | tuple cs xs hl hx => exact absurd (hu (.tuple cs) (by simp [V.cells])) (by simp [V.isCell])
 | lptr id off => exact ⟨rfl,fun i u y hu hy => by cases i with | zero => (simp [V.cells,Value.cells] at hu hy;subst hu;subst hy;exact .lptr id off) | succ j => simp [V.cells] at hu⟩
 | lref id off n cap h hc => exact ⟨rfl,fun i u y hu hy => by cases i with | zero => (simp [V.cells,Value.cells] at hu hy;subst hu;subst hy;exact .lref id off n cap h hc) | succ j => simp [V.cells] at hu⟩
 | gptr i off h => exact ⟨rfl,fun i u y hu hy => by cases i with | zero => (simp [V.cells,Value.cells] at hu hy;subst hu;subst hy;exact .gptr _ off h) | succ j => simp [V.cells] at hu⟩
 | nilptr => exact ⟨rfl,fun i u y hu hy => by cases i with | zero => (simp [V.cells,Value.cells] at hu hy;subst hu;subst hy;exact .nilptr) | succ j => simp [V.cells] at hu⟩
 | eptr row off b o ys hb hc hv hp hm => exact ⟨rfl,fun i u y hu hy => by cases i with | zero => (simp [V.cells,Value.cells] at hu hy;subst hu;subst hy;exact .eptr row off b o ys hb hc hv hp hm) | succ j => simp [V.cells] at hu⟩
 | fn f cap xs hl hx => exact ⟨rfl,fun i u y hu hy => by cases i with | zero => (simp [V.cells,Value.cells] at hu hy;subst hu;subst hy;exact .fn f cap xs hl hx) | succ j => simp [V.cells] at hu⟩
 | nilfn => exact ⟨rfl,fun i u y hu hy => by cases i with | zero => (simp [V.cells,Value.cells] at hu hy;subst hu;subst hy;exact .nilfn) | succ j => simp [V.cells] at hu⟩
 | map i h => exact ⟨rfl,fun i u y hu hy => by cases i with | zero => (simp [V.cells,Value.cells] at hu hy;subst hu;subst hy;exact .map _ h) | succ j => simp [V.cells] at hu⟩
 | nilmap => exact ⟨rfl,fun i u y hu hy => by cases i with | zero => (simp [V.cells,Value.cells] at hu hy;subst hu;subst hy;exact .nilmap) | succ j => simp [V.cells] at hu⟩
theorem shed0_rel {X:Cx} {v:V} {x:Value} (h:XRel X v x):XRel X v.shed0 x:=by
 cases h with
 | oslice h => exact .plain h (fun _ _ _ e => by cases e)
 | zed h => exact .zed h
 | nonil n a cap => exact .nonil n a cap
 | plain h t => cases h <;> exact .plain (by first | exact .int _ _ | exact .bool _ | exact .str _ | exact .nils | exact .nil _ _ | exact .empty _ _ _ _ | (rename_i a b c d e f g i;exact .slice _ _ _ _ _ _ _ (by assumption) (by assumption) (by assumption) (by assumption) (by assumption) (by assumption) (by assumption))) t
 | undef => exact .undef
 | lptr => exact .lptr _ _
 | lref _ _ _ _ h hc => exact .lref _ _ _ _ h hc
 | gptr _ _ h => exact .gptr _ _ h
 | nilptr => exact .nilptr
 | eptr row off b o ys hb hc hv hp hm => exact .eptr row off b o ys hb hc hv hp hm
 | fn f cap xs hl hx => exact .fn f cap xs hl hx
 | nilfn => exact .nilfn
 | map _ h => exact .map _ h
 | nilmap => exact .nilmap
 | agg cs xs hl hx => exact .agg cs xs hl hx
 | tuple cs xs hl hx => exact .tuple cs xs hl hx
theorem shed_rel {X:Cx} {v:V} {x:Value} (h:XRel X v x):XRel X v.shed x:=by
 have key:(∃ cs,v = .agg cs) ∨ v.shed = v.shed0:=by
  cases v <;> first | (left;exact ⟨_,rfl⟩) | (right;rfl)
 rcases key with ⟨cs,rfl⟩ | e
 ·obtain ⟨xs,e,hl,hx⟩:=rel_agg h
  subst e
  refine .agg _ _ (by simpa using hl) (fun i u y hu hy => ?_)
  rw [List.getElem?_map] at hu
  cases hc:cs[i]? with
  | none => simp [hc] at hu
  | some z =>
    simp [hc] at hu
    subst hu
    exact shed0_rel (hx i z y hc hy)
 ·rw [e];exact shed0_rel h
theorem loadG_rel {X:Cx} {r:Root} {v:V} {x:Value} (h:XRel X v x):XRel X (loadG r v) x:=by
 cases r
 ·exact h
 ·exact shed_rel h
 ·exact h
def Does (P:Program) (E:Entry) (o:Oper) (S:St) (S':St) (a:Act) (w:World):Prop :=
 ∀ (K:Act → World → Prop) (Q:Exit → Act → World → Prop),(∀ g' a' w',R E g' S' a' w' → K a' w') → o.wp P a w K Q
theorem Does.value {o:Oper} {S S':St} {x:Value} {g':Gh} {w':World} (hrun:(execOp a.eval o).run P w = .ok (.value x) w') (hR:R E g' S' (a.put o.dst x) w') :
  Does P E o S S' a w:=fun K Q hK => by
 unfold Oper.wp
 rw [hrun,Oper.upon_value]
 exact hK _ _ _ hR
theorem Does.skip {o:Oper} {S S':St} {g':Gh} {w':World} (hrun:(execOp a.eval o).run P w = .ok .skip w') (hd:o.dst = none) (hR:R E g' S' a w') :
  Does P E o S S' a w:=fun K Q hK => by
 unfold Oper.wp
 rw [hrun,Oper.upon_skip,hd]
 exact hK _ _ _ hR
theorem Does.put {o:Oper} {v:V} {x:Value} (hR:R E g S a w) (hd:∀ d,o.dst = some d → d < E.nt)
  (hrun:(execOp a.eval o).run P w = .ok (.value x) w) (hx:XRel (S.cx g w) v x):Does P E o S (S.put o.dst v) a w :=
 .value hrun (hR.put hd hx)
theorem do_mv {o:Oper} {y:Operand} {x:Opd} {S':St} {C:CallF} (ho:o.op = .move y ∨ o.op = .assign y) (hx:okOpd y x = true) (hR:R E g S a w)
  (hd:∀ d,o.dst = some d → d < E.nt) (hrun:VO.run C o.dst S (.mv x) = some S'):Does P E o S S' a w:=by
 simp only [VO.run] at hrun
 split at hrun
 ·rename_i v hv
  cases hrun
  refine Does.put hR hd (x:=a.eval y) ?_ (ev_rel hR hx hv)
  rcases ho with ho | ho <;> simp [execOp,ho]
 ·cases hrun
theorem do_pick {o:Oper} {c p q:Operand} {c' p' q':Opd} {S':St} {C:CallF} (ho:o.op = .pick c p q) (hc:okOpd c c' = true) (hp:okOpd p p' = true) (hq:okOpd q q' = true)
  (hR:R E g S a w) (hd:∀ d,o.dst = some d → d < E.nt) (hrun:VO.run C o.dst S (.pick c' p' q') = some S'):Does P E o S S' a w:=by
 simp only [VO.run] at hrun
 split at hrun
 ·rename_i t ht
  split at hrun
  ·rename_i v hv
   cases hrun
   have h1:=rel_bool (ev_rel hR hc ht)
   refine Does.put hR hd (x:=if t then a.eval p else a.eval q) ?_ ?_
   ·simp [execOp,ho,h1,asBool]
   ·cases t
    ·exact ev_rel hR hq hv
    ·exact ev_rel hR hp hv
  ·cases hrun
 ·cases hrun
theorem eqGuard_int (op:BinOp) (t:TypeId) (x y:Operand) (k k':IntKind) (m n:Int):(eqGuard op t x y (.int k m) (.int k' n)).run P w = .ok () w:=by
 unfold eqGuard;split <;> simp
theorem eqGuard_bool (op:BinOp) (t:TypeId) (x y:Operand) (m n:Bool):(eqGuard op t x y (.bool m) (.bool n)).run P w = .ok () w:=by
 unfold eqGuard;split <;> simp
theorem run_underlying' {t:TypeId} {d:TypeDesc} (h:P.underlying t = some d):(underlying t).run P w = .ok d w:=by
 unfold underlying;simp [h]
omit E g S a in
theorem binOp_int {op:BinOp} {t:TypeId} {k:IntKind} {m n:Int} {v:V} (h:intBin op k m n = some v) :
  ∃ x,(binOp op t (.int k m) (.int k n)).run P w = .ok x w ∧ ∀ X:Cx,XRel X v x:=by
 unfold intBin at h
 split at h
 all_goals (try (cases h;done))
 all_goals (try (split at h;· cases h))
 all_goals (cases h)
 all_goals first
  |(refine ⟨_,?_,fun X => XRel.int _ _⟩;simp [binOp,Op.intArith];done)
  |(refine ⟨_,?_,fun X => XRel.int _ _⟩;simp [binOp,Op.intDiv, *];done)
  |(refine ⟨_,?_,fun X => XRel.int _ _⟩;simp [binOp,Op.shift, *];done)
  |(refine ⟨_,?_,fun X => XRel.bool _⟩;simp [binOp,Op.intCmp];done)
theorem do_binInt {o:Oper} {op:BinOp} {t t':TypeId} {p q:Operand} {x y:Opd} {S':St} {C:CallF} (ho:o.op = .binOp op t p q t') (hp:okOpd p x = true) (hq:okOpd q y = true)
  (hR:R E g S a w) (hd:∀ d,o.dst = some d → d < E.nt) {k:IntKind} {m:Int} {k':IntKind} {n:Int} (h1:S.ev x = some (.int k m)) (h2:S.ev y = some (.int k' n))
  (hrun:VO.run C o.dst S (.bin op x y) = some S'):Does P E o S S' a w:=by
 simp only [VO.run,h1,h2,V.bin] at hrun
 by_cases hk:k = k'
 ·subst hk
  simp only [decide_true,cond_true] at hrun
  split at hrun
  ·rename_i v hv
   cases hrun
   have e1:=rel_int (ev_rel hR hp h1)
   have e2:=rel_int (ev_rel hR hq h2)
   obtain ⟨z,hz,hx⟩:=binOp_int (P:=P) (w:=w) (t:=t) hv
   refine Does.put hR hd (x:=z) ?_ (hx _)
   simp [execOp,ho,e1,e2,eqGuard_int,hz]
  ·cases hrun
 ·simp [hk] at hrun
theorem equal_bool {t:TypeId} (ht:P.underlying t = some .bool) (m n:Bool):(Op.equal t (.bool m) (.bool n)).run P w = .ok (m == n) w:=by
 unfold Op.equal
 rw [show Op.maxDepth = 9999 + 1 from rfl,Op.equalIn]
 simp [run_underlying' ht]
theorem do_beq {o:Oper} {neg:Bool} {t t':TypeId} {p q:Operand} {x y:Opd} {S':St} {C:CallF} (ho:o.op = .binOp (if neg then .neq else .eql) t p q t') (ht:P.underlying t = some .bool) (hp:okOpd p x = true) (hq:okOpd q y = true)
  (hR:R E g S a w) (hd:∀ d,o.dst = some d → d < E.nt) (hrun:VO.run C o.dst S (.beq neg x y) = some S'):Does P E o S S' a w:=by
 simp only [VO.run] at hrun
 split at hrun
 ·rename_i m n h1 h2
  cases hrun
  have e1:=rel_bool (ev_rel hR hp h1)
  have e2:=rel_bool (ev_rel hR hq h2)
  refine Does.put hR hd (x:=.bool (bif neg then m != n else m == n)) ?_ (XRel.bool _)
  cases neg <;> simp [execOp,ho,e1,e2,eqGuard_bool,binOp,equal_bool ht]
  cases m <;> cases n <;> rfl
 ·cases hrun
theorem do_bin {o:Oper} {op:BinOp} {t t':TypeId} {p q:Operand} {x y:Opd} {S':St} {C:CallF} (ho:o.op = .binOp op t p q t') (hp:okOpd p x = true) (hq:okOpd q y = true)
  (hR:R E g S a w) (hd:∀ d,o.dst = some d → d < E.nt) (hrun:VO.run C o.dst S (.bin op x y) = some S'):Does P E o S S' a w:=by
 have hrun':=hrun
 simp only [VO.run] at hrun
 split at hrun
 ·rename_i u v h1 h2
  split at hrun
  ·rename_i z hz
   unfold V.bin at hz
   split at hz
   ·exact do_binInt ho hp hq hR hd h1 h2 hrun'
   ·cases hz
  ·cases hrun
 ·cases hrun
theorem do_un {o:Oper} {op:UnOp} {t:TypeId} {p:Operand} {x:Opd} {S':St} {C:CallF} (ho:o.op = .unOp op t p) (hp:okOpd p x = true)
  (hR:R E g S a w) (hd:∀ d,o.dst = some d → d < E.nt) (hrun:VO.run C o.dst S (.un op x) = some S'):Does P E o S S' a w:=by
 simp only [VO.run] at hrun
 split at hrun
 ·rename_i u hu
  have hr:=ev_rel hR hp hu
  split at hrun
  ·rename_i v hv
   cases hrun
   unfold V.un at hv
   split at hv
   ·have e:=rel_bool hr
    split at hv <;> cases hv
    refine Does.put hR hd (x:=_) ?_ (XRel.bool _)
    simp [execOp,ho,e,Op.unary]
    try rfl
   ·have e:=rel_int hr
    split at hv <;> cases hv
    refine Does.put hR hd (x:=_) ?_ (XRel.int _ _)
    simp [execOp,ho,e,Op.unary,Op.intArith]
    try rfl
   ·cases hv
  ·cases hrun
 ·cases hrun
theorem do_conv {o:Oper} {s t:TypeId} {k:IntKind} {d:TypeDesc} {p:Operand} {x:Opd} {S':St} {C:CallF} (ho:o.op = .convert s t p) (hs:P.underlying s = some d) (ht:P.underlying t = some (.int k)) (hp:okOpd p x = true)
  (hR:R E g S a w) (hd:∀ d,o.dst = some d → d < E.nt) (hrun:VO.run C o.dst S (.conv k x) = some S'):Does P E o S S' a w:=by
 simp only [VO.run] at hrun
 split at hrun
 ·rename_i j n hn
  cases hrun
  have e:=rel_int (ev_rel hR hp hn)
  refine Does.put hR hd (x:=_) ?_ (XRel.int _ _)
  simp [execOp,ho,e,convert,run_underlying' hs,run_underlying' ht,Conv.intToInt]
  try rfl
 ·cases hrun
theorem do_nilchk {o:Oper} {p:Operand} {x:Opd} {S':St} {C:CallF} (ho:o.op = .nilCheck p) (hp:okOpd p x = true)
  (hR:R E g S a w) (hd:∀ d,o.dst = some d → d < E.nt) (hrun:VO.run C o.dst S (.nilchk x) = some S'):Does P E o S S' a w:=by
 simp only [VO.run] at hrun
 split at hrun
 ·rename_i i f hv
  cases hrun
  have hr:=ev_rel hR hp hv
  have e:=rel_lptr hr
  refine Does.put hR hd (x:=_) ?_ hr
  simp [execOp,ho,e]
 ·rename_i i f hv
  cases hrun
  have hr:=ev_rel hR hp hv
  obtain ⟨e,_⟩:=rel_gptr hr
  refine Does.put hR hd (x:=_) ?_ hr
  simp [execOp,ho,e]
 ·rename_i r f hv
  cases hrun
  have hr:=ev_rel hR hp hv
  obtain ⟨b,o',e⟩:∃ b o',a.eval p = .pointer (some ⟨b,o',none⟩):=by
   generalize a.eval p = z at hr
   cases hr with
   | plain h _ => cases h
   | eptr _ _ b o' => exact ⟨b,_,rfl⟩
  refine Does.put hR hd (x:=_) ?_ hr
  simp [execOp,ho,e]
 ·cases hrun
theorem ptr_move {X:Cx} {v:V} {x:Value} (h:XRel X v x) (n:Nat) :
  (∀ i o,v = .lptr i o → ∃ b f,x = .pointer (some ⟨b,f,none⟩) ∧ XRel X (.lptr i (o + n)) (.pointer (some ⟨b,f + n,none⟩))) ∧
  (∀ i o,v = .gptr i o → ∃ b f,x = .pointer (some ⟨b,f,none⟩) ∧ XRel X (.gptr i (o + n)) (.pointer (some ⟨b,f + n,none⟩))) ∧
  (∀ r o,v = .eptr r o → ∃ b f,x = .pointer (some ⟨b,f,none⟩) ∧ XRel X (.eptr r (o + n)) (.pointer (some ⟨b,f + n,none⟩))):=by
 refine ⟨fun i o e => ?_,fun i o e => ?_,fun r o e => ?_⟩
 ·subst e;rw [rel_lptr h];exact ⟨_,_,rfl,.lptr _ _⟩
 ·subst e;obtain ⟨e,hi⟩:=rel_gptr h;rw [e];exact ⟨_,_,rfl,.gptr _ _ hi⟩
 ·subst e
  cases h with
  | plain h _ => cases h
  | eptr _ _ b o' ys hb hc hv hp hm => exact ⟨_,_,rfl,by rw [Nat.add_assoc];exact .eptr r (o + n) b o' ys hb hc hv hp hm⟩
theorem addr_add (b f n:Nat):(⟨b,f,none⟩:Addr).add n = ⟨b,f + n,none⟩:=by
 unfold Addr.add
 split
 ·simp [*]
 ·rfl
theorem run_sizeOf' {t:TypeId} {n:Nat} (h:(P.info? t).map (·.size) = some n):(sizeOf t).run P w = .ok n w:=by
 cases hi:P.info? t with
 | none => simp [hi] at h
 | some i => simp [hi] at h;simp [sizeOf,typeInfo,hi,h]
theorem do_faddr {o:Oper} {s:TypeId} {fi off:Nat} {fs:Array Field} {f:Field} {n:Nat} {p:Operand} {x:Opd} {S':St} {C:CallF} (ho:o.op = .fieldAddr s p fi) (hs:P.underlying s = some (.struct fs))
  (hf:fs[fi]? = some f) (hn:(P.info? f.type).map (·.size) = some n) (h0:n ≠ 0) (hoff:f.offset = off) (hp:okOpd p x = true)
  (hR:R E g S a w) (hd:∀ d,o.dst = some d → d < E.nt) (hrun:VO.run C o.dst S (.faddr off x) = some S'):Does P E o S S' a w:=by
 simp only [VO.run] at hrun
 split at hrun
 all_goals first | (cases hrun;done) | skip
 all_goals
  rename_i hv
  cases hrun
  obtain ⟨m1,m2,m3⟩:=ptr_move (ev_rel hR hp hv) off
 ·obtain ⟨b,q,e,hr⟩:=m1 _ _ rfl
  refine Does.put hR hd (x:=_) ?_ hr
  simp [execOp,ho,e,Instr.fieldAt,run_underlying' hs,hf,Instr.sureAddr,fieldPlace,run_sizeOf' hn,h0,hoff,addr_add]
 ·obtain ⟨b,q,e,hr⟩:=m2 _ _ rfl
  refine Does.put hR hd (x:=_) ?_ hr
  simp [execOp,ho,e,Instr.fieldAt,run_underlying' hs,hf,Instr.sureAddr,fieldPlace,run_sizeOf' hn,h0,hoff,addr_add]
 ·obtain ⟨b,q,e,hr⟩:=m3 _ _ rfl
  refine Does.put hR hd (x:=_) ?_ hr
  simp [execOp,ho,e,Instr.fieldAt,run_underlying' hs,hf,Instr.sureAddr,fieldPlace,run_sizeOf' hn,h0,hoff,addr_add]
theorem do_iaddrArr {o:Oper} {t:TypeId} {len:Nat} {el:TypeId} {sz:Nat} {p q:Operand} {x i:Opd} {S':St} {C:CallF} (ho:o.op = .indexAddr t p q) (ht:P.underlying t = some (.array len el))
  (hn:(P.info? el).map (·.size) = some sz) (hp:okOpd p x = true) (hq:okOpd q i = true)
  (hR:R E g S a w) (hd:∀ d,o.dst = some d → d < E.nt) (hrun:VO.run C o.dst S (.iaddr (some len) sz x i) = some S'):Does P E o S S' a w:=by
 simp only [VO.run] at hrun
 split at hrun
 ·rename_i u k m hu hm
  have e2:=rel_int (ev_rel hR hq hm)
  cases hc:(decide (0 ≤ m) && decide (m < (len:Int))) with
  | false => simp [hc] at hrun
  | true =>
    simp only [hc,cond_true] at hrun
    simp only [Bool.and_eq_true,decide_eq_true_eq] at hc
    have hr:=ev_rel hR hp hu
    obtain ⟨m1,m2,m3⟩:=ptr_move hr (m.toNat * sz)
    split at hrun <;> first | (cases hrun;done) | skip
    all_goals cases hrun
    ·obtain ⟨b,f,e,hx⟩:=m1 _ _ rfl
     refine Does.put hR hd (x:=_) ?_ hx
     simp [execOp,ho,e,e2,Instr.indexAt,asIntOf,run_underlying' ht,Instr.sureAddr,run_sizeOf' hn,hc,addr_add]
    ·obtain ⟨b,f,e,hx⟩:=m2 _ _ rfl
     refine Does.put hR hd (x:=_) ?_ hx
     simp [execOp,ho,e,e2,Instr.indexAt,asIntOf,run_underlying' ht,Instr.sureAddr,run_sizeOf' hn,hc,addr_add]
    ·obtain ⟨b,f,e,hx⟩:=m3 _ _ rfl
     refine Does.put hR hd (x:=_) ?_ hx
     simp [execOp,ho,e,e2,Instr.indexAt,asIntOf,run_underlying' ht,Instr.sureAddr,run_sizeOf' hn,hc,addr_add]
 ·cases hrun
theorem lt_of_get? {α:Type} {l:List α} {i:Nat} {x:α} (h:l[i]? = some x):i < l.length:=by
 rcases Nat.lt_or_ge i l.length with h' | h'
 ·exact h'
 ·simp [List.getElem?_eq_none h'] at h
theorem do_iaddrSl {o:Oper} {t:TypeId} {el:TypeId} {sz:Nat} {p q:Operand} {x i:Opd} {S':St} {C:CallF} (ho:o.op = .indexAddr t p q) (ht:P.underlying t = some (.slice el))
  (hn:(P.info? el).map (·.size) = some sz) (hp:okOpd p x = true) (hq:okOpd q i = true)
  (hR:R E g S a w) (hd:∀ d,o.dst = some d → d < E.nt) (hrun:VO.run C o.dst S (.iaddr none sz x i) = some S'):Does P E o S S' a w:=by
 simp only [VO.run] at hrun
 split at hrun
 ·rename_i tk m es k z hu hm
  have e2:=rel_int (ev_rel hR hq hm)
  cases hc:(decide (0 ≤ z) && (m == sz)) with
  | false => simp [hc] at hrun
  | true =>
    simp only [hc,cond_true] at hrun
    simp only [Bool.and_eq_true,decide_eq_true_eq,beq_iff_eq] at hc
    obtain ⟨hz,rfl⟩:=hc
    split at hrun
    ·rename_i row hrow
     cases hrun
     have hlt:=lt_of_get? hrow
     have hr:=ev_rel hR hp hu
     obtain ⟨b,off,cap,ys,e,hb,hcap,h1,h2,h3,h3p,h4⟩:∃ (b off cap:Nat) (ys:Nat → Nat → Value),a.eval p = .slice (some ⟨b,off,none⟩) es.length cap ∧ b < w.heap.size ∧ es.length ≤ cap ∧
       (∀ (i:Nat) (row:List V),es[i]? = some row → row.length = m) ∧
       (∀ (i:Nat) (row:List V) (j:Nat) (v:V),es[i]? = some row → row[j]? = some v → cellAt w.heap b (off + i * m + j) = some (ys i j)) ∧
       (∀ (i:Nat) (row:List V) (j:Nat) (v:V),es[i]? = some row → row[j]? = some v → VRel w.heap g.m v (ys i j)) ∧
       (∀ (i:Nat) (row:List V) (j:Nat) (v:V),es[i]? = some row → row[j]? = some v → v.plain = true) ∧ off + es.length * m ≤ g.m b:=by
      generalize a.eval p = y at hr
      cases hr with
      | plain h _ =>
        cases h with
        | nil => simp at hlt
        | empty => simp at hlt
        | slice _ _ _ b off cap ys hb hcap hrow hc hv hp hm => exact ⟨b,off,cap,ys,rfl,hb,hcap,hrow,hc,hv,hp,hm⟩
     refine Does.put hR hd (x:=.pointer (some ⟨b,off + z.toNat * m,none⟩)) ?_ ?_
     ·have hz2:z < (es.length:Int):=by omega
      simp [execOp,ho,e,e2,Instr.indexAt,asIntOf,run_underlying' ht,run_sizeOf' hn,hz,hz2,addr_add]
     ·refine .eptr row 0 b (off + z.toNat * m) (ys z.toNat) hb (fun j v hj => h2 _ row j v hrow hj) (fun j v hj => h3 _ row j v hrow hj) (fun j v hj => h3p _ row j v hrow hj) ?_
      have:=h1 _ row hrow
      have h5:z.toNat * m + m ≤ es.length * m:=by
       have:=Nat.mul_le_mul_right m hlt
       rw [Nat.succ_mul] at this
       exact this
      show off + z.toNat * m + row.length ≤ g.m b
      omega
    ·cases hrun
 ·rename_i id off len k z hu hm
  have e2:=rel_int (ev_rel hR hq hm)
  cases hc:(decide (0 ≤ z) && decide (z < (len:Int)) && (off == sz)) with
  | false => simp [hc] at hrun
  | true =>
    simp only [hc,cond_true] at hrun
    simp only [Bool.and_eq_true,decide_eq_true_eq] at hc
    cases hrun
    have hr:=ev_rel hR hp hu
    generalize hy:a.eval p = y at hr
    cases hr with
    | plain h _ => cases h
    | lref _ _ _ cap hcap _ =>
      refine Does.put hR hd (x:=.pointer (some ⟨g.κ id,z.toNat * sz,none⟩)) ?_ (.lptr _ _)
      simp [execOp,ho,hy,e2,Instr.indexAt,asIntOf,run_underlying' ht,run_sizeOf' hn,hc.1,addr_add]
      rfl
 ·cases hrun
theorem do_len {o:Oper} {t e:TypeId} {ts:Array TypeId} {p:Operand} {x:Opd} {S':St} {C:CallF} (ho:o.op = .call ⟨.builtin .len,#[p],ts⟩) (hts:ts[0]? = some t)
  (ht:P.underlying t = some (.slice e)) (hp:okOpd p x = true)
  (hR:R E g S a w) (hd:∀ d,o.dst = some d → d < E.nt) (hrun:VO.run C o.dst S (.len x) = some S'):Does P E o S S' a w:=by
 have go:∀ (v:V) (n:Nat),S.ev x = some v → (∃ q cap,a.eval p = .slice q n cap) → Does P E o S (S.put o.dst (.int .i64 n)) a w:=by
  intro v n hv ⟨q,cap,e⟩
  refine Does.put hR hd (x:=.int .i64 n) ?_ (XRel.int _ _)
  simp [execOp,ho,resolve,invoke,builtin,Builtin.len_,hts,e,run_underlying' ht,goInt]
 simp only [VO.run] at hrun
 split at hrun
 ·rename_i hv
  cases hrun
  exact go _ 0 hv ⟨none,0,rel_nils (ev_rel hR hp hv)⟩
 ·rename_i n hv
  cases hrun
  refine go _ 0 hv ?_
  rcases rel_zed (ev_rel hR hp hv) with e | ⟨a,e⟩
  ·exact ⟨_,_,e⟩
  ·exact ⟨_,_,e⟩
 ·rename_i n hv
  cases hrun
  refine go _ 0 hv ?_
  obtain ⟨a,cap,e⟩:=rel_nonil (ev_rel hR hp hv)
  exact ⟨_,_,e⟩
 ·rename_i tk n es hv
  cases hrun
  have hr:=ev_rel hR hp hv
  refine go _ _ hv ?_
  generalize a.eval p = y at hr
  cases hr with
  | plain h _ => cases h with
    | nil => exact ⟨none,0,rfl⟩
    | empty _ _ a cap => exact ⟨some a,cap,rfl⟩
    | slice => exact ⟨_,_,rfl⟩
 ·rename_i i f n hv
  cases hrun
  have hr:=ev_rel hR hp hv
  refine go _ _ hv ?_
  generalize a.eval p = y at hr
  cases hr with
  | plain h _ => cases h
  | lref => exact ⟨_,_,rfl⟩
 ·cases hrun
theorem do_slen {o:Oper} {t:TypeId} {ts:Array TypeId} {p:Operand} {x:Opd} {S':St} {C:CallF} (ho:o.op = .call ⟨.builtin .len,#[p],ts⟩) (hts:ts[0]? = some t)
  (ht:P.underlying t = some .string) (hp:okOpd p x = true)
  (hR:R E g S a w) (hd:∀ d,o.dst = some d → d < E.nt) (hrun:VO.run C o.dst S (.slen x) = some S'):Does P E o S S' a w:=by
 simp only [VO.run] at hrun
 split at hrun
 ·rename_i l hv
  cases hrun
  obtain ⟨s,e,hs⟩:=rel_str (ev_rel hR hp hv)
  refine Does.put hR hd (x:=.int .i64 l.length) ?_ (XRel.int _ _)
  have:s.size = l.length:=by rw [← hs];simp
  simp [execOp,ho,resolve,invoke,builtin,Builtin.len_,hts,e,run_underlying' ht,goInt,this]
 ·cases hrun
theorem do_ext {o:Oper} {k:Nat} {p:Operand} {x:Opd} {S':St} {C:CallF} (ho:o.op = .extract p k) (hp:okOpd p x = true)
  (hR:R E g S a w) (hd:∀ d,o.dst = some d → d < E.nt) (hrun:VO.run C o.dst S (.ext x k) = some S'):Does P E o S S' a w:=by
 simp only [VO.run] at hrun
 split at hrun
 ·rename_i vs hv
  split at hrun
  ·rename_i v hk
   cases hrun
   obtain ⟨xs,e,hl,hx⟩:=rel_tuple (ev_rel hR hp hv)
   have hlt:k < xs.size:=by rw [← hl];exact lt_of_get? hk
   refine Does.put hR hd (x:=xs[k]) ?_ (hx k v xs[k] hk (by simp [hlt]))
   simp [execOp,ho,e,Instr.extract,hlt]
  ·cases hrun
 ·cases hrun
theorem do_mm {o:Oper} {mx:Bool} {ts:Array TypeId} {p q:Operand} {x y:Opd} {S':St} {C:CallF} (ho:o.op = .call ⟨.builtin (if mx then .max else .min),#[p,q],ts⟩) (hp:okOpd p x = true) (hq:okOpd q y = true)
  (hR:R E g S a w) (hd:∀ d,o.dst = some d → d < E.nt) (hrun:VO.run C o.dst S (.mm mx x y) = some S'):Does P E o S S' a w:=by
 simp only [VO.run] at hrun
 split at hrun
 ·rename_i k m k' n hm hn
  cases hrun
  have e1:=rel_int (ev_rel hR hp hm)
  have e2:=rel_int (ev_rel hR hq hn)
  refine Does.put hR hd (x:=_) ?_ (XRel.int _ _)
  cases mx
  ·simp [execOp,ho,e1,e2,resolve,invoke,builtin,Builtin.min_,Builtin.min2]
   rw [Int.min_def];split <;> split <;> omega
  ·simp [execOp,ho,e1,e2,resolve,invoke,builtin,Builtin.max_,Builtin.max2]
   rw [Int.max_def];split <;> split <;> omega
 ·cases hrun
theorem do_mm3 {o:Oper} {mx:Bool} {ts:Array TypeId} {p q r:Operand} {x y z:Opd} {S':St} {C:CallF} (ho:o.op = .call ⟨.builtin (if mx then .max else .min),#[p,q,r],ts⟩) (hp:okOpd p x = true) (hq:okOpd q y = true) (hz:okOpd r z = true)
  (hR:R E g S a w) (hd:∀ d,o.dst = some d → d < E.nt) (hrun:VO.run C o.dst S (.mm3 mx x y z) = some S'):Does P E o S S' a w:=by
 simp only [VO.run] at hrun
 split at hrun
 ·rename_i k m k' n k'' l hm hn hl
  cases hrun
  have e1:=rel_int (ev_rel hR hp hm)
  have e2:=rel_int (ev_rel hR hq hn)
  have e3:=rel_int (ev_rel hR hz hl)
  refine Does.put hR hd (x:=_) ?_ (XRel.int _ _)
  cases mx
  ·simp [execOp,ho,e1,e2,e3,resolve,invoke,builtin,Builtin.min_,Builtin.min2]
   simp only [Int.min_def];repeat' split
   all_goals omega
  ·simp [execOp,ho,e1,e2,e3,resolve,invoke,builtin,Builtin.max_,Builtin.max2]
   simp only [Int.max_def];repeat' split
   all_goals omega
 ·cases hrun
theorem do_mkfn {o:Oper} {f:FuncId} {caps:Array Operand} {cap:List Opd} {S':St} {C:CallF} (ho:o.op = .makeFunc (.func f) #[] caps) (hc:cap.length = caps.size ∧ ∀ (i:Nat) x y,cap[i]? = some x → caps[i]? = some y → okOpd y x = true)
  (hR:R E g S a w) (hd:∀ d,o.dst = some d → d < E.nt) (hrun:VO.run C o.dst S (.mkfn f cap) = some S'):Does P E o S S' a w:=by
 have hevs:∀ {xs:List Opd} {vs:List V},evs S xs = some vs → vs.length = xs.length ∧ ∀ (i:Nat) (v:V),vs[i]? = some v → ∃ x,xs[i]? = some x ∧ S.ev x = some v:=by
  intro xs
  induction xs with
  | nil => intro vs h;simp [evs] at h;subst h;simp
  | cons x xs ih =>
    intro vs h
    simp only [evs] at h
    split at h
    ·rename_i v vs' h1 h2
     cases h
     obtain ⟨p,q⟩:=ih h2
     refine ⟨by simp [p],fun i u hu => ?_⟩
     cases i with
     | zero => simp at hu;subst hu;exact ⟨x,by simp,h1⟩
     | succ i => obtain ⟨z,hz,he⟩:=q i u (by simpa using hu);exact ⟨z,by simpa using hz,he⟩
    ·cases h
 have hcaps:∀ {vs us:List V},gcaps vs = some us → us = vs ∧ ∀ v ∈ vs,∃ i o,v = .gptr i o:=by
  intro vs
  induction vs with
  | nil => intro us h;simp [gcaps] at h;subst h;simp
  | cons v vs ih =>
    intro us h
    unfold gcaps at h
    split at h
    ·rename_i heq;cases heq
    ·rename_i i o vs' heq
     cases heq
     split at h
     ·rename_i us' hu
      cases h
      obtain ⟨p,q⟩:=ih hu
      subst p
      exact ⟨rfl,fun z hz => by
       rcases List.mem_cons.1 hz with e | e
       ·exact ⟨_,_,e⟩
       ·exact q z e⟩
     ·cases h
    ·cases h
 simp only [VO.run] at hrun
 split at hrun
 ·rename_i vs hvs
  split at hrun
  ·rename_i us hus
   cases hrun
   obtain ⟨l1,g1⟩:=hevs hvs
   obtain ⟨rfl,g2⟩:=hcaps hus
   refine Does.put hR hd (x:=.func (.func f) #[] (caps.map a.eval)) ?_ (.fn f us _ (by simp;omega) (fun j v hj => ?_))
   ·simp [execOp,ho,Instr.makeFunc]
   ·obtain ⟨i,o',e⟩:=g2 v (List.mem_of_getElem? hj)
    obtain ⟨x,hx,hev⟩:=g1 j v hj
    have hlt:j < caps.size:=by have:=lt_of_get? hx;omega
    have hr:=ev_rel hR (hc.2 j x caps[j] hx (by simp [hlt])) hev
    subst e
    obtain ⟨e2,hi⟩:=rel_gptr hr
    exact ⟨i,o',rfl,hi,by simp [hlt,e2]⟩
  ·cases hrun
 ·cases hrun
end
end Go.Vm
