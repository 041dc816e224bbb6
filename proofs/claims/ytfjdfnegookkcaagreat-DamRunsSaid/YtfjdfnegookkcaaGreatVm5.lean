/- The value machine, 5: the operations that read, write and make memory. -/
import Derived.Laws.CopyRow
import Derived.Test.YtfjdfnegookkcaaGreatVm4
namespace Go.Vm
set_option linter.all false
section
variable {P:Program} {E:Entry} {g g':Gh} {S S':St} {a:Act} {w w':World} {T':List (Nat × Nat)} {N' B:Nat} {dk dt:Option Nat}
theorem plain_tok {X:Cx} {v:V} {x:Value} (h:v.plain = true):TokOK X v x:=fun f n es e => by subst e;simp [V.plain] at h
theorem cellsAt_rel (hR:R E g S a w) {p:V} {x:Value} (hr:XRel (S.cx g w) p x) {cs:List V} {off:Nat} (hc:S.cellsAt p = some (cs,off)) :
  ∃ b o,x = .pointer (some ⟨b,o + off,none⟩) ∧ ∀ (j:Nat) (v:V),cs[j]? = some v → ∃ y,cellAt w.heap b (o + j) = some y ∧ XRel (S.cx g w) v y:=by
 unfold St.cellsAt at hc
 split at hc
 ·split at hc
  ·rename_i i f q cs' ho
   cases hc
   obtain ⟨_,_,_,c,e,hh,_,hj⟩:=hR.objs i _ ho
   refine ⟨g.κ i,0,by rw [rel_lptr hr,Nat.zero_add];rfl,fun j v hv => ?_⟩
   obtain ⟨_,y,hy,hx⟩:=hj j v hv
   exact ⟨y,by rw [cellAt_of hh,Nat.zero_add];exact hy,hx⟩
  ·cases hc
 ·split at hc
  ·rename_i i f q cs' ho
   cases hc
   obtain ⟨e,hi⟩:=rel_gptr hr
   obtain ⟨_,hm,c,et,hh,hl,hj⟩:=hR.glob i _ ho
   refine ⟨g.γ i,0,by rw [e,Nat.zero_add];rfl,fun j v hv => ?_⟩
   have hlt:j < c.size:=by rw [← hl];exact lt_of_get? hv
   obtain ⟨_,h2,h3⟩:=hj j v c[j] hv (by simp [hlt])
   refine ⟨c[j],by rw [cellAt_of hh,Nat.zero_add];simp [hlt],h3.mono ?_ (fun i => .inr (h2 i))⟩
   exact ⟨Nat.le_refl _,fun _ _ _ _ h => h,fun _ _ => Nat.le_refl _,Nat.le_refl _,fun _ _ => rfl⟩
  ·cases hc
 ·cases hc
  cases hr with
  | plain h _ => cases h
  | eptr row _ b o ys hb h1 h2 hp hm => exact ⟨b,o,rfl,fun j v hj => ⟨ys j,h1 j v hj,.plain (h2 j v hj) (plain_tok (hp j v hj))⟩⟩
 ·cases hc
def aggOf (P:Program) (t:TypeId):Option Bool :=
 match P.underlying t with
 | some (.struct _) | some (.array _ _) => some true
 | some _ => some false
 | none => none
def sizeIn (P:Program) (t:TypeId):Option Nat:=(P.info? t).map (·.size)
def okSz (P:Program) (t:TypeId) (sz:Option Nat):Bool :=
 match sz with
 | none => aggOf P t == some false && sizeIn P t == some 1
 | some n => aggOf P t == some true && sizeIn P t == some n
theorem run_isAgg {t:TypeId} {b:Bool} (h:aggOf P t = some b):(isAgg t).run P w = .ok b w:=by
 unfold aggOf at h
 unfold isAgg
 split at h
 ·rename_i hu;cases h;simp [run_underlying' hu]
 ·rename_i hu;cases h;simp [run_underlying' hu]
 ·rename_i d h1 h2 hu
  cases h
  simp only [Sem.run_bind,run_underlying' hu,Result.andThen_ok]
  cases d <;> first | rfl | exact absurd rfl (h1 _) | exact absurd rfl (h2 _ _)
 ·cases h
theorem run_loadVar_of {t:TypeId} {sz:Option Nat} (hs:okSz P t sz = true) {cs:List V} {off b o:Nat} {v:V} {X:Cx}
  (hc:∀ (j:Nat) (v:V),cs[j]? = some v → ∃ y,cellAt w.heap b (o + j) = some y ∧ XRel X v y) (hv:loadAt sz cs off = some v) :
  ∃ x,(loadVar t ⟨b,o + off,none⟩).run P w = .ok x w ∧ XRel X v x:=by
 unfold loadAt at hv
 unfold okSz at hs
 cases sz with
 | none =>
   simp only [Bool.and_eq_true,beq_iff_eq] at hs
   obtain ⟨y,hy,hr⟩:=hc off v hv
   refine ⟨y,?_,hr⟩
   simp [loadVar,run_isAgg hs.1,cell?_eq,hy]
 | some n =>
   simp only [Bool.and_eq_true,beq_iff_eq] at hs
   simp only at hv
   cases hle:Nat.ble (off + n) cs.length with
   | false => simp [hle] at hv
   | true =>
     simp only [hle,cond_true,Option.some.injEq] at hv
     have hle:=Nat.le_of_ble_eq_true hle
     subst hv
     have hf:∀ j,j < n → w.cell? ((⟨b,o + off,none⟩:Addr).add j) = some ((cellAt w.heap b (o + off + j)).getD undef):=fun j hj => by
      obtain ⟨y,hy,_⟩:=hc (off + j) cs[off + j] (List.getElem?_eq_getElem (by omega))
      rw [addr_add,cell?_eq,show o + off + j = o + (off + j) from by omega,hy]
      rfl
     refine ⟨.agg ((List.range n).map fun j => (cellAt w.heap b (o + off + j)).getD undef).toArray,?_,.agg _ _ ?_ fun j u y hu hy => ?_⟩
     ·simp [loadVar,run_isAgg hs.1,run_sizeOf' hs.2,run_loadCells w _ n _ hf]
     ·simp;omega
     ·simp only [List.getElem?_take,List.getElem?_drop] at hu
      split at hu
      ·rename_i hj
       obtain ⟨z,hz,hr⟩:=hc (off + j) u hu
       simp [hj] at hy
       rw [show o + off + j = o + (off + j) from by omega,hz] at hy
       simp at hy
       exact hy ▸ hr
      ·cases hu
theorem do_load {o:Oper} {t:TypeId} {root:Root} {sz:Option Nat} {p:Operand} {x:Opd} {C:CallF} (ho:o.op = .load t p) (hs:okSz P t sz = true) (hp:okOpd p x = true)
  (hR:R E g S a w) (hd:∀ d,o.dst = some d → d < E.nt) (hrun:VO.run C o.dst S (.load root sz x) = some S'):Does P E o S S' a w:=by
 simp only [VO.run] at hrun
 split at hrun
 ·rename_i u hu
  cases hfit:root.fits u with
  | false => simp [hfit] at hrun
  | true =>
    simp only [hfit,cond_true] at hrun
    split at hrun
    ·rename_i cs off hc
     split at hrun
     ·rename_i v hv
      cases hrun
      obtain ⟨b,f,e,hcs⟩:=cellsAt_rel hR (ev_rel hR hp hu) hc
      obtain ⟨z,hz,hr⟩:=run_loadVar_of (w:=w) hs hcs hv
      refine Does.put hR hd (x:=z) ?_ (loadG_rel hr)
      simp [execOp,ho,Instr.loadAt,e,Instr.sureAddr,hz]
     ·cases hrun
    ·cases hrun
 ·cases hrun
theorem run_part_of {t:TypeId} {sz:Option Nat} (hs:okSz P t sz = true) {cs:List V} {xs:Array Value} {off:Nat} {v:V} {X:Cx} (hl:cs.length = xs.size)
  (hc:∀ (j:Nat) (v:V) (y:Value),cs[j]? = some v → xs[j]? = some y → XRel X v y) (hv:loadAt sz cs off = some v) :
  ∃ x,(part t xs off).run P w = .ok x w ∧ XRel X v x:=by
 unfold loadAt at hv
 unfold okSz at hs
 cases sz with
 | none =>
   simp only [Bool.and_eq_true,beq_iff_eq] at hs
   have hlt:off < xs.size:=by rw [← hl];exact lt_of_get? hv
   refine ⟨xs[off],?_,hc off v xs[off] hv (by simp [hlt])⟩
   simp [part,run_isAgg hs.1,hlt]
 | some n =>
   simp only [Bool.and_eq_true,beq_iff_eq] at hs
   simp only at hv
   cases hle:Nat.ble (off + n) cs.length with
   | false => simp [hle] at hv
   | true =>
     simp only [hle,cond_true,Option.some.injEq] at hv
     have hle:=Nat.le_of_ble_eq_true hle
     subst hv
     refine ⟨.agg (xs.extract off (off + n)),?_,.agg _ _ ?_ fun j u y hu hy => ?_⟩
     ·simp [part,run_isAgg hs.1,run_sizeOf' hs.2]
     ·simp;omega
     ·simp only [List.getElem?_take,List.getElem?_drop] at hu
      split at hu
      ·rename_i hj
       refine hc (off + j) u y hu ?_
       rw [Array.getElem?_extract] at hy
       split at hy
       ·exact hy
       ·cases hy
      ·cases hu
theorem do_field {o:Oper} {t:TypeId} {fs:Array Field} {f:Field} {fi off:Nat} {sz:Option Nat} {p:Operand} {x:Opd} {C:CallF} (ho:o.op = .field t p fi) (ht:P.underlying t = some (.struct fs))
  (hf:fs[fi]? = some f) (hoff:f.offset = off) (hs:okSz P f.type sz = true) (hp:okOpd p x = true)
  (hR:R E g S a w) (hd:∀ d,o.dst = some d → d < E.nt) (hrun:VO.run C o.dst S (.field off sz x) = some S'):Does P E o S S' a w:=by
 simp only [VO.run] at hrun
 split at hrun
 ·rename_i cs hu
  split at hrun
  ·rename_i v hv
   cases hrun
   obtain ⟨xs,e,hl,hx⟩:=rel_agg (ev_rel hR hp hu)
   obtain ⟨z,hz,hr⟩:=run_part_of (w:=w) hs hl hx hv
   refine Does.put hR hd (x:=z) ?_ hr
   simp [execOp,ho,Instr.field,run_underlying' ht,hf,e,asAgg,hoff,hz]
  ·cases hrun
 ·cases hrun
theorem do_idx {o:Oper} {t el:TypeId} {len n:Nat} {ag:Bool} {p q:Operand} {x i:Opd} {C:CallF} (ho:o.op = .index t p q) (ht:P.underlying t = some (.array len el))
  (hs:okSz P el (bif ag then some n else none) = true) (hn:sizeIn P el = some n) (hp:okOpd p x = true) (hq:okOpd q i = true)
  (hR:R E g S a w) (hd:∀ d,o.dst = some d → d < E.nt) (hrun:VO.run C o.dst S (.idx len n ag x i) = some S'):Does P E o S S' a w:=by
 simp only [VO.run] at hrun
 split at hrun
 ·rename_i cs k m hu hm
  have e2:=rel_int (ev_rel hR hq hm)
  cases hc:(decide (0 ≤ m) && decide (m < (len:Int))) with
  | false => simp [hc] at hrun
  | true =>
    simp only [hc,cond_true] at hrun
    simp only [Bool.and_eq_true,decide_eq_true_eq] at hc
    split at hrun
    ·rename_i v hv
     cases hrun
     obtain ⟨xs,e,hl,hx⟩:=rel_agg (ev_rel hR hp hu)
     obtain ⟨z,hz,hr⟩:=run_part_of (w:=w) hs hl hx hv
     refine Does.put hR hd (x:=z) ?_ hr
     simp [execOp,ho,Instr.index,asIntOf,e2,run_underlying' ht,e,run_sizeOf' hn,hc,hz]
    ·cases hrun
 ·cases hrun
theorem R.touched (t:Touch E g S w g' T' N' w' B dk dt) (hR:R E g S a w) (hT:S'.toks = T') (hN:S'.glob.length = N')
  (hkeep:∀ i,Keeps (S.cx g w) ⟨w'.heap,g',N',T'⟩ i ∨ S.noMen i)
  (henv:∀ s v,look s S'.env = some v → look s S.env = some v ∨ ∃ x,a.tmps[s]? = some x ∧ XRel ⟨w'.heap,g',N',T'⟩ v x)
  (hobj:∀ id cs,look id S'.objs = some cs → (look id S.objs = some cs ∧ dk ≠ some id ∧ (B < w.heap.size → g.ow B ≠ .obj id)) ∨
   (g'.ow (g'.κ id) = .obj id ∧ E.w0.heap.size ≤ g'.κ id ∧ g'.m (g'.κ id) = 0 ∧
    ∃ c e,w'.heap[g'.κ id]? = some (.cells c e (0,0)) ∧ g'.cp id ≤ c.size ∧ ∀ (j:Nat) (v:V),cs[j]? = some v → v.isCell = true ∧ ∃ y,c[j]? = some y ∧ XRel ⟨w'.heap,g',N',T'⟩ v y))
  (htok:∀ f k b,look f T' = some k → g'.τ f = some b → (dt ≠ some f ∧ (B < w.heap.size → g.ow B ≠ .tok f)) ∨ (g'.ow b = .tok f ∧ (E.w0.heap.size ≤ b ∨ E.own b) ∧ b < w'.heap.size))
  (hglob:∀ i o,S'.glob[i]? = some o → (S.glob[i]? = some o ∧ (B < w.heap.size → g.ow B ≠ .glob i ∧ ∀ j,g.ow B ≠ .cell (g.γ i) j)) ∨ (g'.ow (g'.γ i) = .glob i ∧ GObjRel w'.heap g' N' (g'.γ i) o ∧ Owns w'.heap g' (g'.γ i) o)):R E g' S' a w':=by
 have hcx:S'.cx g' w' = ⟨w'.heap,g',N',T'⟩:=by simp [St.cx,hT,hN]
 refine ⟨fun s v hs => ?_,fun id cs ho => ?_,fun f k b hf hb => ?_,⟨fun i o ho => ?_,fun i o ho => ?_⟩,hR.defers,hR.tsz,by rw [hN];exact t.same hR⟩
 ·rw [hcx]
  rcases henv s v hs with h | h
  ·exact t.env hR (fun i => (hkeep i).imp (fun z => z) fun h => h.env) s v h
  ·exact h
 ·rw [hcx]
  rcases hobj id cs ho with ⟨h1,h2,h3⟩ | h
  ·exact t.obj hR h1 h2 h3 (fun i => (hkeep i).imp (fun z => z) fun h v hv => men_of_men0 (h.objs id cs h1 v hv))
  ·exact h
 ·rw [hT] at hf
  rcases htok f k b hf hb with ⟨h1,h2⟩ | h
  ·exact t.tok hR hf hb h1 h2
  ·exact h
 ·rw [hN]
  rcases hglob i o ho with ⟨h1,h2⟩ | h
  ·exact t.globObj hR h1 fun hb => (h2 hb).1
  ·exact ⟨h.1,h.2.1⟩
 ·rcases hglob i o ho with ⟨h1,h2⟩ | h
  ·exact t.owns hR h1 h2
  ·exact h.2.2
def upd {α:Type} (f:Nat → α) (k:Nat) (v:α):Nat → α:=fun i => if i = k then v else f i
theorem upd_same {α:Type} (f:Nat → α) (k:Nat) (v:α):upd f k v k = v:=by simp [upd]
theorem upd_ne {α:Type} (f:Nat → α) {k i:Nat} (v:α) (h:i ≠ k):upd f k v i = f i:=by simp [upd,h]
theorem touch_new {ob:Obj} (hR:R E g S a w) (hw:w'.heap = w.heap.push ob) (h1:w'.os = w.os) (h2:w'.tape = w.tape) (h3:w'.output = w.output)
  (hm:∀ b,b ≠ w.heap.size → g'.m b = g.m b) (how:∀ b,b ≠ w.heap.size → g'.ow b = g.ow b)
  (hκ:∀ i,dk ≠ some i → g'.κ i = g.κ i) (hcp:∀ i,dk ≠ some i → g'.cp i = g.cp i) (hτ:∀ i,dt ≠ some i → g'.τ i = g.τ i) (hT:∀ i,dt ≠ some i → look i T' = look i S.toks)
  (hγ:∀ i,i < S.glob.length → g'.γ i = g.γ i) (hN:S.glob.length ≤ N') (hγn:∀ i,S.glob.length ≤ i → i < N' → E.w0.heap.size ≤ g'.γ i) :
  Touch E g S w g' T' N' w' w.heap.size dk dt where
 os:=h1
 tape:=h2
 output:=h3
 size:=by rw [hw];simp
 heap:=fun b _ hb => by rw [hw,Array.getElem?_push,if_neg (by omega)]
 m:=hm
 ow:=how
 κ:=hκ
 cp:=hcp
 τ:=hτ
 T:=hT
 γ:=hγ
 nle:=hN
 γnew:=hγn
 fresh:=.inl hR.same.size
 cold:=fun _ _ h _ => absurd hR.same.size (Nat.not_le_of_lt h)
 imm:=fun o y _ hy => absurd (cellAt_lt hy) (Nat.lt_irrefl _)
 mle:=fun h => absurd h (Nat.lt_irrefl _)
theorem new_heap {c:Array Value} {e:TypeId} (hw:w'.heap = w.heap.push (.cells c e (0,0))):w'.heap[w.heap.size]? = some (.cells c e (0,0)):=by
 rw [hw];simp
theorem R.newObj (hR:R E g S a w) {id:Nat} (hn:S.noMen id) {c:Array Value} {e:TypeId} (hw:w'.heap = w.heap.push (.cells c e (0,0))) (h1:w'.os = w.os) (h2:w'.tape = w.tape) (h3:w'.output = w.output)
  {cs:List V} (hcs:∀ (j:Nat) (v:V),cs[j]? = some v → v.isCell = true ∧ v.men id = false ∧ ∃ y,c[j]? = some y ∧ XRel (S.cx g w) v y) (cpn:Nat:=0) (hcpn:cpn ≤ c.size:=by exact Nat.zero_le _) :
  ∃ g',R E g' { S with objs:=(id,cs) :: S.objs } a w' ∧ g'.κ id = w.heap.size ∧ g'.cp id = cpn:=by
 let g':Gh:={ g with m:=upd g.m w.heap.size 0,κ:=upd g.κ id w.heap.size,cp:=upd g.cp id cpn,ow:=upd g.ow w.heap.size (.obj id) }
 have t:Touch E g S w g' S.toks S.glob.length w' w.heap.size (some id) none:=touch_new hR hw h1 h2 h3 (fun b hb => upd_ne _ _ hb) (fun b hb => upd_ne _ _ hb)
  (fun i hi => upd_ne _ _ (fun e => hi (by rw [e]))) (fun i hi => upd_ne _ _ (fun e => hi (by rw [e]))) (fun i _ => rfl) (fun i _ => rfl) (fun i _ => rfl) (Nat.le_refl _) (fun i a b => absurd a (by omega))
 have hkeep:∀ i,Keeps (S.cx g w) ⟨w'.heap,g',S.glob.length,S.toks⟩ i ∨ i = id:=fun i => by
  by_cases hi:i = id
  ·exact .inr hi
  ·exact .inl (t.keeps hR (fun e => hi (by cases e;rfl)) (fun e => by cases e) (fun h => absurd h (Nat.lt_irrefl _)))
 refine ⟨g',R.touched t hR rfl rfl (fun i => (hkeep i).imp (fun z => z) fun e => by rw [e];exact hn) (fun s v hs => .inl hs) (fun i cs' ho => ?_) (fun f k b hf hb => .inl ⟨(fun e => by cases e),fun h => absurd h (Nat.lt_irrefl _)⟩)
  (fun i o ho => .inl ⟨ho,fun h => absurd h (Nat.lt_irrefl _)⟩),upd_same _ _ _,upd_same _ _ _⟩
 ·rw [look_cons] at ho
  by_cases hi:id = i
  ·subst hi
   rw [if_pos rfl] at ho
   cases ho
   refine .inr ⟨?_,?_,?_,c,e,?_,(by show upd g.cp _ _ _ ≤ _;rw [upd_same];exact hcpn),fun j v hj => ?_⟩
   ·show upd g.ow _ _ (upd g.κ _ _ _) = _;rw [upd_same,upd_same]
   ·show _ ≤ upd g.κ _ _ _;rw [upd_same];exact hR.same.size
   ·show upd g.m _ _ (upd g.κ _ _ _) = _;rw [upd_same,upd_same]
   ·show w'.heap[upd g.κ _ _ _]? = _;rw [upd_same];exact new_heap hw
   ·obtain ⟨q1,q2,y,q3,q4⟩:=hcs j v hj
    exact ⟨q1,y,q3,q4.mono t.le fun i => (hkeep i).imp (fun z => z) fun e => by rw [e];exact q2⟩
  ·rw [if_neg hi] at ho
   exact .inl ⟨ho,fun e => hi (by cases e;rfl),fun h => absurd h (Nat.lt_irrefl _)⟩
theorem men_cells {v:V} {d:Nat} (h:v.men d = false):∀ u ∈ v.cells,u.men d = false:=fun u hu => by
 cases v with
 | agg cs => exact men_agg h hu
 | _ => simp [V.cells] at hu;subst hu;exact h
theorem do_obj {o:Oper} {t:TypeId} {i:TypeInfo} {z:Value} {id:Nat} {cells:List V} {C:CallF} (ho:o.op = .alloc t) (hi:P.info? t = some i) (hz:i.zero = some z) (hc:okVals z.cells.toList cells = true)
  (hn:S.noMen id) (hR:R E g S a w) (hd:∀ d,o.dst = some d → d < E.nt) (hrun:VO.run C o.dst S (.obj id cells) = some S'):Does P E o S S' a w:=by
 simp only [VO.run] at hrun
 cases hrun
 obtain ⟨hl,hx⟩:=okVals_rel (X:=S.cx g w) hc
 obtain ⟨g',hR',hκ,_⟩:=hR.newObj (w':=w.alloc (.cells z.cells t)) hn rfl rfl rfl rfl (cs:=cells) (fun j v hj => by
  have hlt:j < z.cells.size:=by have:=lt_of_get? hj;simp at hl;omega
  obtain ⟨q1,q2,q3⟩:=hx j v z.cells[j] hj (by simp [hlt])
  exact ⟨q1,q2 _,z.cells[j],by simp [hlt],q3⟩)
 refine Does.value (x:=.pointer (some ⟨w.heap.size,0,none⟩)) (w':=w.alloc (.cells z.cells t)) (g':=g') ?_ (hR'.put hd ?_)
 ·simp [execOp,ho,Instr.alloc,zeroValue,typeInfo,hi,hz,newVar,newRow]
 ·rw [← hκ];exact .lptr id 0
theorem do_box {o:Oper} {t:TypeId} {id:Nat} {p:Operand} {x:Opd} {C:CallF} (ho:o.op = .box t p) (hp:okOpd p x = true)
  (hn:S.noMen id) (hnx:∀ v,S.ev x = some v → v.men id = false) (hR:R E g S a w) (hd:∀ d,o.dst = some d → d < E.nt) (hrun:VO.run C o.dst S (.box id x) = some S'):Does P E o S S' a w:=by
 simp only [VO.run] at hrun
 split at hrun
 ·rename_i v hv
  cases hc:v.cells.all V.isCell with
  | false => simp [hc] at hrun
  | true =>
    simp only [hc,cond_true] at hrun
    cases hrun
    have hc':∀ u ∈ v.cells,u.isCell = true:=by simpa [List.all_eq_true] using hc
    obtain ⟨hl,hx⟩:=rel_cells (ev_rel hR hp hv) hc'
    obtain ⟨g',hR',hκ,_⟩:=hR.newObj (w':=w.alloc (.cells (a.eval p).cells t)) hn rfl rfl rfl rfl (cs:=v.cells) (fun j u hj => by
     have hlt:j < (a.eval p).cells.size:=by have:=lt_of_get? hj;simp at hl;omega
     exact ⟨hc' u (List.mem_of_getElem? hj),men_cells (hnx v hv) u (List.mem_of_getElem? hj),(a.eval p).cells[j],by simp [hlt],hx j u _ hj (by simp [hlt])⟩)
    refine Does.value (x:=.pointer (some ⟨w.heap.size,0,none⟩)) (w':=w.alloc (.cells (a.eval p).cells t)) (g':=g') ?_ (hR'.put hd ?_)
    ·simp [execOp,ho,Instr.box,newVar,newRow]
    ·rw [← hκ];exact .lptr id 0
 ·cases hrun
end
end Go.Vm
