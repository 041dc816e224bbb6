/- The value machine, 8: literals, stores, make, blocks that calls share. -/
import Derived.Great.BuildSlice
import Derived.IntWalk
import Derived.Laws.Slices
import Derived.Test.YtfjdfnegookkcaaGreatVm7
import Derived.WalkSpells
import Derived.Lib.SliceRun
namespace Go.Vm
set_option linter.all false
section
variable {P:Program} {E:Entry} {g g':Gh} {S S':St} {a:Act} {w w':World} {T':List (Nat × Nat)} {N' B:Nat}
theorem putAt_get (off k:Nat):∀ (vs:List Value) (i:Nat) (cs:Array Value),((vs.zipIdx i).foldl (fun cs (p:Value × Nat) => cs.setIfInBounds (off + p.2) p.1) cs)[k]? =
  if off + i ≤ k ∧ k < off + i + vs.length ∧ k < cs.size then vs[k - (off + i)]? else cs[k]?
 | [],i,cs => by simp;omega
 | v :: vs,i,cs => by
   rw [List.zipIdx_cons,List.foldl_cons,putAt_get off k vs (i + 1)]
   simp only [Array.size_setIfInBounds,List.length_cons,Array.getElem?_setIfInBounds]
   by_cases h:off + (i + 1) ≤ k ∧ k < off + (i + 1) + vs.length ∧ k < cs.size
   ·rw [if_pos h,if_pos (by omega),show k - (off + i) = (k - (off + (i + 1))) + 1 from by omega,List.getElem?_cons_succ]
   ·rw [if_neg h]
    by_cases he:off + i = k
    ·subst he
     by_cases hlt:off + i < cs.size
     ·simp [hlt]
     ·simp [hlt]
    ·rw [if_neg he,if_neg (by omega)]
theorem setAll_get (k:Nat):∀ (vs:List V) (off:Nat) (cs:List V),(setAll cs off vs)[k]? = if off ≤ k ∧ k < off + vs.length ∧ k < cs.length then vs[k - off]? else cs[k]?
 | [],off,cs => by simp [setAll];omega
 | v :: vs,off,cs => by
   rw [setAll,setAll_get k vs (off + 1)]
   simp only [List.length_set,List.length_cons,List.getElem?_set]
   by_cases h:off + 1 ≤ k ∧ k < off + 1 + vs.length ∧ k < cs.length
   ·rw [if_pos h,if_pos (by omega),show k - off = (k - (off + 1)) + 1 from by omega,List.getElem?_cons_succ]
   ·rw [if_neg h]
    by_cases he:off = k
    ·subst he
     by_cases hlt:off < cs.length
     ·simp [hlt]
     ·simp [hlt]
    ·rw [if_neg he,if_neg (by omega)]
theorem setAll_len:∀ (vs:List V) (off:Nat) (cs:List V),(setAll cs off vs).length = cs.length
 | [],off,cs => rfl
 | v :: vs,off,cs => by rw [setAll,setAll_len vs];simp
theorem putAt_size (off:Nat):∀ (vs:List Value) (i:Nat) (cs:Array Value),((vs.zipIdx i).foldl (fun cs (p:Value × Nat) => cs.setIfInBounds (off + p.2) p.1) cs).size = cs.size
 | [],i,cs => rfl
 | v :: vs,i,cs => by rw [List.zipIdx_cons,List.foldl_cons,putAt_size off vs];simp
theorem fold_zip (off:Nat) (vs cs:Array Value):vs.zipIdx.foldl (fun (cs:Array Value) (x:Value × Nat) => match x with | (c,j) => cs.setIfInBounds (off + j) c) cs =
  (vs.toList.zipIdx 0).foldl (fun cs (p:Value × Nat) => cs.setIfInBounds (off + p.2) p.1) cs:=by
 rw [← Array.foldl_toList,Array.toList_zipIdx]
def okParts (place:Nat → Option (Nat × Nat)):List (Nat × Operand) → List (Nat × Nat × Opd) → Bool
 | [],[] => true
 |(i,y) :: ps,(off,n,x) :: qs => place i == some (off,n) && okOpd y x && okParts place ps qs
 | _,_ => false
theorem fill_rel (hR:R E g S a w) {place:Nat → Option (Nat × Nat)}:∀ {ps:List (Nat × Operand)} {qs:List (Nat × Nat × Opd)},okParts place ps qs = true → ∀ {cs cs':List V} {xs:Array Value},fillParts S qs cs = some cs' →
  PW (S.cx g w) cs xs.toList → ∃ xs',Instr.fill place xs (ps.map fun (i,x) => (i,a.eval x)) = some xs' ∧ PW (S.cx g w) cs' xs'.toList
 | [],[],_,cs,cs',xs,h,hp => by simp only [fillParts,Option.some.injEq] at h;subst h;exact ⟨xs,rfl,hp⟩
 | [],_ :: _,h,_,_,_,_,_ => by simp [okParts] at h
 | _ :: _,[],h,_,_,_,_,_ => by simp [okParts] at h
 |(i,y) :: ps,(off,n,x) :: qs,h,cs,cs',xs,hf,hp => by
  simp only [okParts,Bool.and_eq_true,beq_iff_eq] at h
  obtain ⟨⟨hpl,ho⟩,hok⟩:=h
  simp only [fillParts] at hf
  split at hf
  ·rename_i v hv
   cases hc:(v.cells.length == n && Nat.ble (off + n) cs.length && v.cells.all V.isCell) with
   | false => simp [hc] at hf
   | true =>
     simp only [hc,cond_true] at hf
     simp only [Bool.and_eq_true,beq_iff_eq,List.all_eq_true] at hc
     obtain ⟨⟨hlen,hle⟩,hcell⟩:=hc
     have hle:=Nat.le_of_ble_eq_true hle
     obtain ⟨hl,hx⟩:=rel_cells (ev_rel hR ho hv) hcell
     have hsz:(a.eval y).cells.size = n:=by simpa [hlen] using hl.symm
     have hpl':=hp.len
     simp only [Array.length_toList] at hpl'
     obtain ⟨xs',h1,h2⟩:=fill_rel hR (ps:=ps) (xs:=((a.eval y).cells.toList.zipIdx 0).foldl (fun cs (p:Value × Nat) => cs.setIfInBounds (off + p.2) p.1) xs) hok hf (by
      refine ⟨by rw [setAll_len,hpl'];exact (putAt_size off _ _ _).symm,fun j u z hu hz => ?_⟩
      rw [setAll_get] at hu
      rw [Array.getElem?_toList,putAt_get] at hz
      simp only [Nat.add_zero,Array.length_toList,hsz,hlen,hpl'] at hu hz
      split at hu
      ·rename_i hin
       rw [if_pos hin] at hz
       exact hx _ u z hu hz
      ·rename_i hin
       rw [if_neg hin] at hz
       exact hp.at_ j u z hu (by simpa using hz))
     refine ⟨xs',?_,h2⟩
     simp only [List.map_cons,Instr.fill,hpl,hsz,Bool.false_or,ne_eq,not_true_eq_false,decide_false]
     rw [fold_zip]
     rw [if_neg (by simp;omega)]
     exact h1
  ·cases hf
def placeOf (P:Program) (t:TypeId):Option (Nat → Option (Nat × Nat)) :=
 match P.underlying t with
 | some (.array _ e) => (P.info? e).map fun ie i => some (i * ie.size,ie.size)
 | some (.struct fields) => (fields.toList.mapM (fun f => (P.info? f.type).map fun i => (f.offset,i.size))).map fun places i => places.toArray[i]?
 | _ => none
theorem built_of {t:TypeId} {it:TypeInfo} {z:Value} {place:Nat → Option (Nat × Nat)} (hi:P.info? t = some it) (hz:it.zero = some z) (hp:placeOf P t = some place) (parts:List (Nat × Value)) :
  P.built t parts = Instr.fill place z.cells parts:=by
 unfold placeOf at hp
 unfold Program.built
 split at hp
 ·rename_i n e hu
  cases hie:P.info? e with
  | none => simp [hie] at hp
  | some ie => simp [hie] at hp;subst hp;simp [hi,hu,hz,hie]
 ·rename_i fields hu
  cases hm:fields.toList.mapM (fun f => (P.info? f.type).map fun i => (f.offset,i.size)) with
  | none => simp [hm] at hp
  | some places => simp [hm] at hp;subst hp;simp [hi,hu,hz,hm]
 ·cases hp
theorem do_build {o:Oper} {t:TypeId} {it:TypeInfo} {z:Value} {place:Nat → Option (Nat × Nat)} {ps:Array (Nat × Operand)} {zero:List V} {qs:List (Nat × Nat × Opd)} {C:CallF} (ho:o.op = .build t ps)
  (hi:P.info? t = some it) (hz:it.zero = some z) (hpl:placeOf P t = some place) (hzero:okVals z.cells.toList zero = true) (hparts:okParts place ps.toList qs = true)
  (hR:R E g S a w) (hd:∀ d,o.dst = some d → d < E.nt) (hrun:VO.run C o.dst S (.build zero qs) = some S'):Does P E o S S' a w:=by
 simp only [VO.run] at hrun
 split at hrun
 ·rename_i cs hf
  cases hrun
  obtain ⟨hl,hx⟩:=okVals_rel (X:=S.cx g w) hzero
  obtain ⟨xs,h1,h2⟩:=fill_rel hR hparts (xs:=z.cells) hf ⟨hl,fun i v y hv hy => (hx i v y hv hy).2.2⟩
  refine Does.put hR hd (x:=.agg xs) ?_ (.agg cs xs (by simpa using h2.len) (fun i v y hv hy => h2.at_ i v y hv (by simpa using hy)))
  have hb:=built_of hi hz hpl ((ps.map fun (i,x) => (i,a.eval x)).toList)
  rw [Array.toList_map,h1] at hb
  have:=run_build (P:=P) w t (ps.map fun (i,x) => (i,a.eval x)) xs (by rw [Array.toList_map];exact hb)
  simp only [execOp,ho]
  simp only [Sem.run_bind,this,Result.andThen_ok,Sem.run_pure]
 ·cases hrun
theorem R.newImm (hR:R E g S a w) {c:Array Value} {e:TypeId} (hw:w'.heap = w.heap.push (.cells c e (0,0))) (h1:w'.os = w.os) (h2:w'.tape = w.tape) (h3:w'.output = w.output)
  {n:Nat} {ys:List (List V)} {l:List Value} (hl:RowsRel w.heap g.m n ys l) (hc:∀ (j:Nat) (y:Value),l[j]? = some y → c[j]? = some y) {cap:Nat} (hcap:ys.length ≤ cap) :
  ∃ g',R E g' S a w' ∧ XRel (S.cx g' w') (.slice none n ys) (.slice (some ⟨w.heap.size,0,none⟩) ys.length cap):=by
 let g':Gh:={ g with m:=upd g.m w.heap.size (ys.length * n) }
 have t:Touch E g S w g' S.toks S.glob.length w' w.heap.size none none:=touch_new hR hw h1 h2 h3 (fun b hb => upd_ne _ _ hb) (fun b hb => rfl)
  (fun i _ => rfl) (fun i _ => rfl) (fun i _ => rfl) (fun i _ => rfl) (fun i _ => rfl) (Nat.le_refl _) (fun i a b => absurd a (by omega))
 have hnew:=new_heap hw
 refine ⟨g',R.touched t hR rfl rfl (fun i => .inl (t.keeps hR (fun e => by cases e) (fun e => by cases e) (fun h => absurd h (Nat.lt_irrefl _)))) (fun s v hs => .inl hs)
  (fun i cs ho => .inl ⟨ho,(fun e => by cases e),fun h => absurd h (Nat.lt_irrefl _)⟩) (fun i k b hi hb => .inl ⟨(fun e => by cases e),fun h => absurd h (Nat.lt_irrefl _)⟩)
  (fun i o ho => .inl ⟨ho,fun h => absurd h (Nat.lt_irrefl _)⟩),?_⟩
 have hm:g'.m w.heap.size = ys.length * n:=upd_same _ _ _
 refine .plain (vrel_of_block (m:=g'.m) (l:=l) (hl.mono t.le) (by show _ < w'.heap.size;rw [hw];simp) hcap (fun j y hj => ?_) (by omega) _) (fun i n' es' he k hk => by cases he)
 show cellAt w'.heap _ _ = _
 rw [cellAt_of hnew,Nat.zero_add];exact hc j y hj
def okEl0:Value → Option Nat → V → Bool
 | .int k n,none,.int k' n' => decide (k = k') && n == n'
 | .bool b,none,.bool c => b == c
 | .string s,none,.str l => s.data.toList == l
 | .slice none 0 0,some n,.slice none m [] => n == m
 | _,_,_ => false
def okEls:List Value → Sh → List V → Bool
 | [],[],[] => true
 | x :: xs,h :: sh,v :: vs => okEl0 x h v && okEls xs sh vs
 | _,_,_ => false
theorem okEl0_rel {h:Array Obj} {m:Nat → Nat} {x:Value} {s:Option Nat} {v:V} (he:okEl0 x s v = true):v.plain = true ∧ VRel h m v x:=by
 unfold okEl0 at he
 split at he
 ·simp at he;obtain ⟨rfl,rfl⟩:=he;exact ⟨rfl,.int _ _⟩
 ·simp at he;subst he;exact ⟨rfl,.bool _⟩
 ·simp at he;subst he;exact ⟨rfl,.str _⟩
 ·exact ⟨rfl,.nil _ _⟩
 ·cases he
theorem okEls_rel {h:Array Obj} {m:Nat → Nat}:∀ {xs:List Value} {sh:Sh} {vs:List V},okEls xs sh vs = true → vs.length = sh.length ∧ xs.length = sh.length ∧
  ∀ (i:Nat) (v:V),vs[i]? = some v → ∃ x,xs[i]? = some x ∧ v.plain = true ∧ VRel h m v x
 | [],[],[],_ => by simp
 | x :: xs,s :: sh,v :: vs,he => by
   simp only [okEls,Bool.and_eq_true] at he
   obtain ⟨p,q,r⟩:=okEls_rel (h:=h) (m:=m) he.2
   refine ⟨by simp [p],by simp [q],fun i u hu => ?_⟩
   cases i with
   | zero => simp at hu;subst hu;exact ⟨x,by simp,okEl0_rel he.1⟩
   | succ i => obtain ⟨y,hy,z⟩:=r i u (by simpa using hu);exact ⟨y,by simpa using hy,z⟩
 | [],[],_ :: _,he => by simp [okEls] at he
 | [],_ :: _,_,he => by simp [okEls] at he
 | _ :: _,[],_,he => by simp [okEls] at he
 | _ :: _,_ :: _,[],he => by simp [okEls] at he
theorem rows_zero {h:Array Obj} {m:Nat → Nat} {sh:Sh} {zs:List Value} {zero:List V} (hz:okEls zs sh zero = true) (n:Nat) :
  RowsRel h m sh.length (List.replicate n zero) ((List.range (n * sh.length)).map fun k => zs.getD (k % sh.length) default):=by
 obtain ⟨hl,hl2,hx⟩:=okEls_rel (h:=h) (m:=m) hz
 refine ⟨by simp,fun i row hr => ?_,fun i row j v hr hj => ?_⟩
 ·rw [List.getElem?_replicate] at hr
  split at hr <;> cases hr
  exact hl
 ·rw [List.getElem?_replicate] at hr
  split at hr
  ·rename_i hi
   cases hr
   obtain ⟨u,hu,p,q⟩:=hx j v hj
   have hjl:j < zs.length:=lt_of_get? hu
   have hjs:j < sh.length:=by omega
   refine ⟨p,u,?_,q⟩
   have:=mul_lt hi hjs
   simp only [List.getElem?_map,List.getElem?_range this,Option.map_some,Option.some.injEq]
   rw [Nat.add_comm,Nat.add_mul_mod_self_right,Nat.mod_eq_of_lt hjs]
   simp [List.getD,hu]
  ·cases hr
def okRows (len:Nat):List (Nat × Operand) → List (Nat × Opd) → Bool
 | [],[] => true
 |(i,y) :: ps,(k,x) :: qs => i == k && okOpd y x && okRows len ps qs
 | _,_ => false
theorem els_cells {sh:Sh} {v:V} {r:List V} (h:els sh v.cells = some r):∀ u ∈ v.cells,u.isCell = true:=fun u hu => by
 have:∀ {sh:Sh} {vs us:List V},els sh vs = some us → ∀ u ∈ vs,u.isCell = true:=by
  intro sh
  induction sh with
  | nil => intro vs us h u hu;cases vs <;> simp_all [els]
  | cons s sh ih =>
    intro vs us h u hu
    cases vs with
    | nil => simp at hu
    | cons z zs =>
      simp only [els] at h
      split at h
      ·rename_i p q h1 h2
       rcases List.mem_cons.1 hu with e | e
       ·subst e
        unfold el at h1
        split at h1 <;> first | rfl | cases h1
       ·exact ih h2 u e
      ·cases h
 exact this h u hu
theorem fillRows_rel (hR:R E g S a w) {sh:Sh}:∀ {ps:List (Nat × Operand)} {qs:List (Nat × Opd)} {len:Nat},okRows len ps qs = true → ∀ {rs rs':List (List V)} {xs:Array Value},fillRows S sh qs rs = some rs' →
  RowsRel w.heap g.m sh.length rs xs.toList → ∃ xs',Instr.fill (fun i => some (i * sh.length,sh.length)) xs (ps.map fun (i,x) => (i,a.eval x)) = some xs' ∧ RowsRel w.heap g.m sh.length rs' xs'.toList ∧ rs'.length = rs.length
 | [],[],_,_,rs,rs',xs,h,hp => by simp only [fillRows,Option.some.injEq] at h;subst h;exact ⟨xs,rfl,hp,rfl⟩
 | [],_ :: _,_,h,_,_,_,_,_ => by simp [okRows] at h
 | _ :: _,[],_,h,_,_,_,_,_ => by simp [okRows] at h
 |(i,y) :: ps,(k,x) :: qs,len,h,rs,rs',xs,hf,hp => by
  simp only [okRows,Bool.and_eq_true,beq_iff_eq] at h
  obtain ⟨⟨rfl,ho⟩,hok⟩:=h
  simp only [fillRows] at hf
  split at hf
  ·rename_i v hv
   split at hf
   ·rename_i r hr
    cases hlt:Nat.blt i rs.length with
    | false => simp [hlt] at hf
    | true =>
      simp only [hlt,cond_true] at hf
      have hlt:i < rs.length:=Nat.le_of_ble_eq_true hlt
      obtain ⟨hl,hx⟩:=rel_cells (ev_rel hR ho hv) (els_cells hr)
      obtain ⟨e1,e2⟩:=els_len hr
      have hsz:(a.eval y).cells.size = sh.length:=by simp at hl;omega
      have hpl':=hp.len
      simp only [Array.length_toList] at hpl'
      have hfit:i * sh.length + sh.length ≤ rs.length * sh.length:=by
       have:=Nat.mul_le_mul_right sh.length hlt
       rw [Nat.succ_mul] at this
       exact this
      obtain ⟨xs',h1,h2,h3⟩:=fillRows_rel hR (ps:=ps) (xs:=((a.eval y).cells.toList.zipIdx 0).foldl (fun cs (p:Value × Nat) => cs.setIfInBounds (i * sh.length + p.2) p.1) xs) hok hf (by
       refine ⟨?_,fun k row hk => ?_,fun k row j u hk hj => ?_⟩
       ·rw [List.length_set,← hpl'];exact putAt_size _ _ _ _
       ·rw [List.getElem?_set] at hk
        split at hk
        ·first
         |(cases hk;exact e1)
         |(split at hk
           ·cases hk;exact e1
           ·cases hk)
        ·exact hp.row k row hk
       ·have hkl:k < rs.length:=by have:=lt_of_get? hk;simpa using this
        rw [List.getElem?_set] at hk
        simp only [Array.getElem?_toList,putAt_get,Nat.add_zero,Array.length_toList,hsz,hpl']
        split at hk
        ·rename_i hik
         subst hik
         have hk:r = row:=by simpa [hlt] using hk
         subst hk
         have hjl:=lt_of_get? hj
         rw [e1] at hjl
         obtain ⟨z,s,hz,hes⟩:=els_get hr j u hj
         have hjy:j < (a.eval y).cells.size:=by omega
         obtain ⟨p,q⟩:=el_rel hes (hx j z (a.eval y).cells[j] hz (by simp [hjy]))
         refine ⟨p,_,?_,q⟩
         rw [if_pos (by omega),Nat.add_sub_cancel_left]
         simp [hjy]
        ·rename_i hik
         obtain ⟨p,z,hz,q⟩:=hp.cell k row j u hk hj
         have hjl:=lt_of_get? hj
         rw [hp.row k row hk] at hjl
         refine ⟨p,z,?_,q⟩
         rw [if_neg]
         ·simpa using hz
         ·rintro ⟨p1,p2,_⟩
          rcases Nat.lt_or_ge i k with h | h
          ·have:=Nat.mul_le_mul_right sh.length h
           rw [Nat.succ_mul] at this
           omega
          ·have h:k < i:=by omega
           have:=Nat.mul_le_mul_right sh.length h
           rw [Nat.succ_mul] at this
           omega)
      refine ⟨xs',?_,h2,by rw [h3];simp⟩
      simp only [List.map_cons,Instr.fill,hsz,Bool.false_or,ne_eq,not_true_eq_false,decide_false]
      rw [fold_zip]
      rw [if_neg (by simp;omega)]
      exact h1
   ·cases hf
  ·cases hf
theorem range_map_arr (n m:Nat) (zs:Array Value) (hz:zs.size = m) (hm:0 < m):((Array.range (n * m)).map fun i => zs[i % zs.size]!).toList = (List.range (n * m)).map fun k => zs.toList.getD (k % m) default:=by
 apply List.ext_getElem?
 intro j
 by_cases hj:j < n * m
 ·have:=Nat.mod_lt j hm
  have h2:j % m < zs.size:=by omega
  simp [hj,hz,List.getD]
  rw [getElem!_pos zs (j % m) h2]
  simp [h2]
 ·simp [hj]
theorem do_lit {o:Oper} {t e:TypeId} {ie:TypeInfo} {z:Value} {tok:Option Nat} {sh:Sh} {zero:List V} {len:Nat} {ps:Array (Nat × Operand)} {qs:List (Nat × Opd)} {C:CallF} (ho:o.op = .buildSlice t len ps)
  (ht:P.underlying t = some (.slice e)) (hi:P.info? e = some ie) (hz:ie.zero = some z) (hsz:ie.size = sh.length) (hzs:z.cells.size = sh.length) (hpos:0 < sh.length) (hlen:0 < len) (hsmall:len * sh.length ≤ 16777216)
  (hel:okEls z.cells.toList sh zero = true) (hparts:okRows len ps.toList qs = true) (hn:∀ f,tok = some f → S.noMen f)
  (hR:R E g S a w) (hd:∀ d,o.dst = some d → d < E.nt) (hrun:VO.run C o.dst S (.lit tok sh zero len qs) = some S'):Does P E o S S' a w:=by
 simp only [VO.run] at hrun
 split at hrun
 ·rename_i rs hf
  have hzero:RowsRel w.heap g.m sh.length (List.replicate len zero) ((Array.range (len * ie.size)).map fun i => z.cells[i % z.cells.size]!).toList:=by
   rw [hsz,range_map_arr len sh.length z.cells hzs hpos]
   exact rows_zero hel len
  obtain ⟨xs,h1,h2,h3⟩:=fillRows_rel hR hparts (xs:=(Array.range (len * ie.size)).map fun i => z.cells[i % z.cells.size]!) hf hzero
  have h3:rs.length = len:=by simpa using h3
  have hbs:=run_buildSlice (P:=P) w t e len (ps.map fun (i,x) => (i,a.eval x)) xs ie z ht hi hz (by rw [hsz];omega) (by rw [hsz];have:=Nat.mul_pos hlen hpos;omega) (by rw [Array.toList_map,hsz];rw [hsz] at h1;exact h1)
  have hexec:(execOp a.eval o).run P w = .ok (.value (.slice (some ⟨w.heap.size,0,none⟩) len len)) (w.alloc (.cells xs e)):=by
   simp only [execOp,ho]
   simp only [Sem.run_bind,hbs,Result.andThen_ok,Sem.run_pure]
  have hxl:=h2.len
  simp only [Array.length_toList,h3] at hxl
  split at hrun
  ·rename_i f
   cases hrun
   obtain ⟨g',r1,r2⟩:=hR.newTail (w':=w.alloc (.cells xs e)) (f:=f) rfl rfl rfl rfl (n:=sh.length) (ys:=rs) (l:=xs.toList) (by omega) (.inl (hn f rfl)) h2 (fun j y hj => by simpa using hj) (cap:=len) (by omega) (by omega)
   rw [h3] at r1 r2
   exact .value hexec (r1.put hd r2)
  ·cases hrun
   obtain ⟨g',r1,r2⟩:=hR.newImm (w':=w.alloc (.cells xs e)) rfl rfl rfl rfl (n:=sh.length) (ys:=rs) (l:=xs.toList) h2 (fun j y hj => by simpa using hj) (cap:=len) (by omega)
   rw [h3] at r2
   exact .value hexec (r1.put hd r2)
 ·cases hrun
theorem wrap_small {n:Int} (h0:0 ≤ n) (h1:n ≤ lim):IntKind.i64.wrap n = n:=by
 unfold lim at h1
 exact IntWalk.i64_in _ (by omega)
theorem run_makeSlice_of {t e:TypeId} {ie:TypeInfo} {z:Value} {k:IntKind} {n:Int} (ht:P.underlying t = some (.slice e)) (hi:P.info? e = some ie) (hz:ie.zero = some z) (hpos:0 < ie.size) (hby:ie.bytes ≤ 32768) (h0:0 ≤ n) (h1:n ≤ lim) :
  (Instr.makeSlice t (.int k n) (.int k n)).run P w = .ok (.slice (some ⟨w.heap.size,0,none⟩) n.toNat n.toNat) (w.alloc (.cells ((Array.range (n.toNat * ie.size)).map fun i => z.cells[i % z.cells.size]!) e)):=by
 have hb:(ie.bytes:Int) * n ≤ 281474976710656:=by
  unfold lim at h1
  have a1:(ie.bytes:Int) ≤ 32768:=by omega
  have:=Int.mul_le_mul a1 h1 h0 (by decide)
  simp at this
  omega
 have hw:=wrap_small h0 h1
 by_cases hn:n.toNat * ie.size = 0
 ·have hn0:n.toNat = 0:=by
   rcases Nat.mul_eq_zero.1 hn with h | h
   ·exact h
   ·omega
  have:n = 0:=by omega
  subst this
  simp [Instr.makeSlice,run_underlying' ht,asInt,asIntOf,typeInfo,hi,hw,sizeOf,newRow,show Array.range 0 = #[] from rfl]
 ·have h3:¬ (n < 0):=by omega
  have h4:¬ (281474976710656 < (ie.bytes:Int) * n):=by omega
  simp [Instr.makeSlice,run_underlying' ht,asInt,asIntOf,typeInfo,hi,hw,sizeOf,newRow,h3,h4,hn,zeroValue,hz]
theorem flat_replicate (zero:List V):∀ (n k:Nat),(List.replicate n zero).flatten[k]? = if k < n * zero.length then zero[k % zero.length]? else none
 | 0,k => by simp
 | n + 1,k => by
   have e:(n + 1) * zero.length = n * zero.length + zero.length:=Nat.succ_mul _ _
   rw [List.replicate_succ,List.flatten_cons,List.getElem?_append,flat_replicate zero n,e]
   generalize n * zero.length = q
   by_cases h:k < zero.length
   ·rw [if_pos h,if_pos (by omega),Nat.mod_eq_of_lt h]
   ·rw [if_neg h]
    by_cases h2:k < q + zero.length
    ·rw [if_pos h2,if_pos (by omega),Nat.mod_eq_sub_mod (a:=k) (by omega)]
    ·rw [if_neg h2,if_neg (by omega)]
theorem do_mkobj {o:Oper} {t e:TypeId} {ie:TypeInfo} {z:Value} {id:Nat} {zero:List V} {p p':Operand} {x:Opd} {C:CallF} (ho:o.op = .makeSlice t p p')
  (ht:P.underlying t = some (.slice e)) (hi:P.info? e = some ie) (hz:ie.zero = some z) (hsz:ie.size = zero.length) (hpos:0 < ie.size) (hby:ie.bytes ≤ 32768)
  (hz0:okVals z.cells.toList zero = true) (hp:okOpd p x = true) (hp':okOpd p' x = true) (hn:S.noMen id)
  (hR:R E g S a w) (hd:∀ d,o.dst = some d → d < E.nt) (hrun:VO.run C o.dst S (.mkobj id zero x) = some S'):Does P E o S S' a w:=by
 simp only [VO.run] at hrun
 split at hrun
 ·rename_i k n hx
  cases hc:(decide (0 ≤ n) && decide (n ≤ (lim:Int))) with
  | false => simp [hc] at hrun
  | true =>
    simp only [hc,cond_true] at hrun
    simp only [Bool.and_eq_true,decide_eq_true_eq] at hc
    cases hrun
    have e1:=rel_int (ev_rel hR hp hx)
    have e1':=rel_int (ev_rel hR hp' hx)
    obtain ⟨hl,hv⟩:=okVals_rel (X:=S.cx g w) hz0
    have hzs:z.cells.size = ie.size:=by rw [hsz];simpa using hl.symm
    have hm:=run_makeSlice_of (P:=P) (w:=w) (k:=k) ht hi hz hpos hby hc.1 hc.2
    obtain ⟨g',r1,r2,r3⟩:=hR.newObj (cpn:=n.toNat * zero.length) (hcpn:=by simp [hsz]) (w':=w.alloc (.cells ((Array.range (n.toNat * ie.size)).map fun i => z.cells[i % z.cells.size]!) e)) hn rfl rfl rfl rfl (cs:=(List.replicate n.toNat zero).flatten) (fun j v hj => by
     rw [flat_replicate] at hj
     split at hj
     ·rename_i hlt
      have hj2:j % zero.length < z.cells.size:=by rw [hzs,hsz];exact Nat.mod_lt _ (by omega)
      obtain ⟨q1,q2,q3⟩:=hv (j % zero.length) v z.cells[j % zero.length] hj (by simp [hj2])
      refine ⟨q1,q2 _,z.cells[j % zero.length],?_,q3⟩
      simp [hzs,hsz,hlt]
      rw [getElem!_pos z.cells (j % zero.length) hj2]
     ·cases hj)
    refine Does.value (x:=.slice (some ⟨w.heap.size,0,none⟩) n.toNat n.toNat) (g':=g') (w':=w.alloc (.cells ((Array.range (n.toNat * ie.size)).map fun i => z.cells[i % z.cells.size]!) e)) ?_ (r1.put hd ?_)
    ·simp only [execOp,ho,e1,e1']
     simp only [Sem.run_bind,hm,Result.andThen_ok,Sem.run_pure]
    ·rw [← r2];exact .lref id _ _ _ (Nat.le_refl _) r3.symm
 ·cases hrun
theorem do_litmk {o:Oper} {t e:TypeId} {ie:TypeInfo} {z:Value} {sh:Sh} {zero:List V} {len:Nat} {p p':Operand} {C:CallF} (ho:o.op = .makeSlice t p p')
  (ht:P.underlying t = some (.slice e)) (hi:P.info? e = some ie) (hz:ie.zero = some z) (hsz:ie.size = sh.length) (hzs:z.cells.size = sh.length) (hby:ie.bytes ≤ 32768) (hpos:0 < sh.length) (hsmall:len ≤ 65536)
  (hel:okEls z.cells.toList sh zero = true) (hp:okOpd p (.c (.int .i64 len)) = true) (hp':okOpd p' (.c (.int .i64 len)) = true)
  (hR:R E g S a w) (hd:∀ d,o.dst = some d → d < E.nt) (hrun:VO.run C o.dst S (.lit none sh zero len []) = some S'):Does P E o S S' a w:=by
 simp only [VO.run,fillRows] at hrun
 cases hrun
 have hzero:RowsRel w.heap g.m sh.length (List.replicate len zero) ((Array.range (len * ie.size)).map fun i => z.cells[i % z.cells.size]!).toList:=by
  rw [hsz,range_map_arr len sh.length z.cells hzs hpos]
  exact rows_zero hel len
 have e1:=rel_int (ev_rel hR hp rfl)
 have e1':=rel_int (ev_rel hR hp' rfl)
 have hm:=run_makeSlice_of (P:=P) (w:=w) (k:=.i64) (n:=(len:Int)) ht hi hz (by omega) hby (by omega) (by unfold lim;omega)
 simp only [Int.toNat_natCast] at hm
 obtain ⟨g',r1,r2⟩:=hR.newImm (w':=w.alloc (.cells ((Array.range (len * ie.size)).map fun i => z.cells[i % z.cells.size]!) e)) rfl rfl rfl rfl (n:=sh.length) (ys:=List.replicate len zero) (l:=((Array.range (len * ie.size)).map fun i => z.cells[i % z.cells.size]!).toList) hzero (fun j y hj => by rw [← Array.getElem?_toList];exact hj) (cap:=len) (by simp)
 rw [List.length_replicate] at r2
 refine Does.value (x:=.slice (some ⟨w.heap.size,0,none⟩) len len) (g':=g') (w':=w.alloc (.cells ((Array.range (len * ie.size)).map fun i => z.cells[i % z.cells.size]!) e)) ?_ (r1.put hd r2)
 simp only [execOp,ho,e1,e1']
 simp only [Sem.run_bind,hm,Result.andThen_ok,Sem.run_pure]
theorem run_storeVar_of {t:TypeId} {n:Nat} (hs:sizeIn P t = some n) {b o:Nat} {v:Value} (hv:v.cells.size = n) {c:Array Value} {e:TypeId} (hb:w.heap[b]? = some (.cells c e (0,0))) (hfit:o + n ≤ c.size)
  (h1:∀ y ∈ v.cells.toList,y.oneCell' = true):(storeVar t ⟨b,o,none⟩ v).run P w = .ok () (w.setRow b (c.toList.take o ++ v.cells.toList ++ c.toList.drop (o + n)).toArray):=by
 have hst:=run_storeCells_at P b o e v.cells.toList 0 c w hb (by simp;omega) h1
 simp only [Nat.add_zero,Array.length_toList,hv] at hst
 simp [storeVar,run_sizeOf' hs,hv,hst]
theorem splice_get {c:Array Value} {l:List Value} {o:Nat} (hfit:o + l.length ≤ c.size) (k:Nat):(c.toList.take o ++ l ++ c.toList.drop (o + l.length)).toArray[k]? = if o ≤ k ∧ k < o + l.length then l[k - o]? else c[k]?:=by
 simp only [List.getElem?_toArray,List.append_assoc]
 by_cases h:k < o
 ·rw [List.getElem?_append_left (by simp;omega),if_neg (by omega)]
  simp [h]
 ·rw [List.getElem?_append_right (by simp;omega)]
  have e:(c.toList.take o).length = o:=by simp;omega
  rw [e]
  by_cases h2:k - o < l.length
  ·rw [List.getElem?_append_left h2,if_pos (by omega)]
  ·rw [List.getElem?_append_right (by omega),if_neg (by omega),List.getElem?_drop]
   simp
   congr 1
   omega
theorem splice_size {c:Array Value} {l:List Value} {o:Nat} (hfit:o + l.length ≤ c.size):(c.toList.take o ++ l ++ c.toList.drop (o + l.length)).toArray.size = c.size:=by
 simp;omega
theorem heap_setRow_ne (w:World) (b i:Nat) (c:Array Value) (h:i ≠ b):(w.setRow b c).heap[i]? = w.heap[i]?:=by
 simp only [World.setRow,Array.getElem?_modify]
 rw [if_neg (by omega)]
theorem touch_row {b:Nat} {c':Array Value} (hm:g.m b = 0) (hfresh:E.w0.heap.size ≤ b ∨ ∃ i,i < E.N0 ∧ E.g0.γ i = b) (hcold:∀ p q,g.ow b ≠ .cell p q) :
  Touch E g S w g S.toks S.glob.length (w.setRow b c') b none none where
 os:=rfl
 tape:=rfl
 output:=rfl
 size:=by simp
 heap:=fun i hi _ => heap_setRow_ne w b i c' hi
 m:=fun _ _ => rfl
 ow:=fun _ _ => rfl
 κ:=fun _ _ => rfl
 cp:=fun _ _ => rfl
 τ:=fun _ _ => rfl
 T:=fun _ _ => rfl
 γ:=fun _ _ => rfl
 nle:=Nat.le_refl _
 γnew:=fun i a b => absurd a (by omega)
 fresh:=hfresh.imp (fun z => z) .inl
 cold:=fun p q _ e => absurd e (hcold p q)
 imm:=fun o y ho _ => absurd ho (by omega)
 mle:=fun _ => Nat.le_refl _
theorem do_storeL {o:Oper} {t:TypeId} {sh:Sh} {p q:Operand} {x y:Opd} {id off:Nat} {cs:List V} {v:V} (ho:o.op = .store t p q) (hdst:o.dst = none) (hs:sizeIn P t = some sh.length) (hp:okOpd p x = true) (hq:okOpd q y = true)
  (hR:R E g S a w) (hx:S.ev x = some (.lptr id off)) (hy:S.ev y = some v) (hob:look id S.objs = some cs) (hl:v.cells.length = sh.length) (hle:off + sh.length ≤ cs.length) (hcell:∀ u ∈ v.cells,u.isCell = true) :
  Does P E o S { S with objs:=(id,setAll cs off v.cells) :: S.objs } a w:=by
 obtain ⟨how,hbase,hm,c,e,hh,hcp,hj⟩:=hR.objs id cs hob
 obtain ⟨hpl,hpx⟩:=rel_cells (ev_rel hR hq hy) hcell
 have hsz:(a.eval q).cells.size = sh.length:=by simp at hpl;omega
 have hc:cs.length ≤ c.size:=by
  rcases Nat.lt_or_ge c.size cs.length with h | h
  ·obtain ⟨_,y,hy,_⟩:=hj c.size cs[c.size] (List.getElem?_eq_getElem h)
   simp at hy
  ·exact h
 have h1:∀ y ∈ (a.eval q).cells.toList,y.oneCell' = true:=fun y hy => by
  obtain ⟨k,hk⟩:=List.mem_iff_getElem?.1 hy
  have hkl:=lt_of_get? hk
  have hkv:k < v.cells.length:=by omega
  exact rel_oneCell (hpx k v.cells[k] y (List.getElem?_eq_getElem hkv) hk) (hcell _ (List.getElem_mem hkv))
 have hfit:off + (a.eval q).cells.toList.length ≤ c.size:=by simp;omega
 have hrun:=run_storeVar_of (P:=P) (w:=w) hs (v:=a.eval q) hsz hh (o:=off) (by omega) h1
 have hlen:(a.eval q).cells.toList.length = sh.length:=by simpa using hsz
 rw [← hlen] at hrun
 let c':Array Value:=(c.toList.take off ++ (a.eval q).cells.toList ++ c.toList.drop (off + (a.eval q).cells.toList.length)).toArray
 have hnew:(w.setRow (g.κ id) c').heap[g.κ id]? = some (.cells c' e (0,0)):=setRow_heap w _ c c' e _ hh
 have tt:=touch_row (c':=c') (S:=S) (w:=w) hm (.inl hbase) (fun _ _ e => by rw [how] at e;cases e)
 have hk:∀ i,Keeps (S.cx g w) ⟨(w.setRow (g.κ id) c').heap,g,S.glob.length,S.toks⟩ i:=fun i => tt.keeps hR (fun e => by cases e) (fun e => by cases e) (fun _ e => by rw [how] at e;cases e)
 refine Does.skip (g':=g) (w':=w.setRow (g.κ id) c') ?_ hdst (R.touched tt hR rfl rfl (fun i => .inl (hk i)) (fun s v hs => .inl hs) (fun i cs' hi => ?_) (fun f k b hf hb => .inl ⟨(fun e => by cases e),fun _ e => by rw [how] at e;cases e⟩)
  (fun i o hi => .inl ⟨hi,fun _ => ⟨fun e => (by rw [how] at e;cases e),fun _ e => (by rw [how] at e;cases e)⟩⟩))
 ·simp only [execOp,ho,rel_lptr (ev_rel hR hp hx)]
  have hrun':(storeVar t ⟨(S.cx g w).g.κ id,off,none⟩ (a.eval q)).run P w = .ok () (w.setRow (g.κ id) c'):=hrun
  simp [Instr.storeAt,Instr.sureAddr,hrun']
 ·rw [look_cons] at hi
  by_cases hii:id = i
  ·subst hii
   rw [if_pos rfl] at hi
   cases hi
   refine .inr ⟨how,hbase,hm,c',e,hnew,(by rw [splice_size (by omega)];exact hcp),fun j u hu => ?_⟩
   rw [setAll_get] at hu
   show _ ∧ ∃ y,c'[j]? = some y ∧ _
   rw [show c'[j]? = _ from splice_get hfit j]
   split at hu
   ·rename_i hin
    rw [if_pos (by omega)]
    have hjv:=lt_of_get? hu
    have hjl:j - off < (a.eval q).cells.toList.length:=by omega
    exact ⟨hcell u (List.mem_of_getElem? hu),_,List.getElem?_eq_getElem hjl,(hpx (j - off) u _ hu (List.getElem?_eq_getElem hjl)).mono tt.le (fun i => .inl (hk i))⟩
   ·rename_i hin
    have hjc:=lt_of_get? hu
    rw [if_neg (by omega)]
    obtain ⟨q1,z,q2,q3⟩:=hj j u hu
    exact ⟨q1,z,q2,q3.mono tt.le (fun i => .inl (hk i))⟩
  ·rw [if_neg hii] at hi
   exact .inl ⟨hi,(fun e => by cases e),fun _ e => hii (by rw [how] at e;cases e;rfl)⟩
theorem gel_rel {X:Cx} {sh:Option Nat} {v u:V} {y:Value} (h:gel sh v = some u) (hr:XRel X v y):u.isCell = true ∧ (∀ d,u.men d = false) ∧ XRel ⟨X.h,X.g,X.N,[]⟩ u y ∧ v.isCell = true:=by
 have hel:∀ {v u},el sh v = some u → XRel X v y → u.isCell = true ∧ (∀ d,u.men d = false) ∧ XRel ⟨X.h,X.g,X.N,[]⟩ u y ∧ v.isCell = true:=fun {v u} h hr => by
  obtain ⟨p,q⟩:=el_rel h hr
  refine ⟨by cases u <;> simp_all [V.plain,V.isCell],fun d => ?_,.plain q (plain_tok p),?_⟩
  ·cases u <;> simp_all [V.plain,V.men,V.men1,V.men0]
   rename_i tok _ _
   cases tok <;> simp_all [V.men0]
  ·unfold el at h
   split at h <;> first | rfl | cases h
 unfold gel at h
 split at h
 ·cases h;obtain ⟨e,hi⟩:=rel_gptr hr;rw [e];exact ⟨rfl,fun _ => rfl,.gptr _ _ hi,rfl⟩
 ·cases h;cases hr with
  | plain h _ => cases h
  | nilptr => exact ⟨rfl,fun _ => rfl,.nilptr,rfl⟩
 ·cases h;cases hr with
  | plain h _ => cases h
  | fn _ _ xs hl hx => exact ⟨rfl,fun _ => rfl,.fn _ _ xs hl hx,rfl⟩
 ·cases h;cases hr with
  | plain h _ => cases h
  | nilfn => exact ⟨rfl,fun _ => rfl,.nilfn,rfl⟩
 ·cases h;cases hr with
  | plain h _ => cases h
  | map _ hi => exact ⟨rfl,fun _ => rfl,.map _ hi,rfl⟩
 ·cases h;cases hr with
  | plain h _ => cases h
  | nilmap => exact ⟨rfl,fun _ => rfl,.nilmap,rfl⟩
 ·exact hel h hr
theorem gels_len:∀ {sh:Sh} {vs us:List V},gels sh vs = some us → us.length = sh.length ∧ vs.length = sh.length
 | [],[],us,h => by simp [gels] at h;subst h;simp
 | [],_ :: _,_,h => by simp [gels] at h
 | _ :: _,[],_,h => by simp [gels] at h
 | s :: sh,v :: vs,us,h => by
   simp only [gels] at h
   split at h
   ·rename_i u us' h1 h2
    cases h
    obtain ⟨a,b⟩:=gels_len h2
    simp [a,b]
   ·cases h
theorem gels_get:∀ {sh:Sh} {vs us:List V},gels sh vs = some us → ∀ (j:Nat) (u:V),us[j]? = some u → ∃ v s,vs[j]? = some v ∧ gel s v = some u
 | [],[],us,h,j,u,hu => by simp [gels] at h;subst h;simp at hu
 | [],_ :: _,_,h,_,_,_ => by simp [gels] at h
 | _ :: _,[],_,h,_,_,_ => by simp [gels] at h
 | s :: sh,v :: vs,us,h,j,u,hu => by
   simp only [gels] at h
   split at h
   ·rename_i u' us' h1 h2
    cases h
    cases j with
    | zero => simp at hu;subst hu;exact ⟨v,s,by simp,h1⟩
    | succ j => obtain ⟨z,t,p,q⟩:=gels_get h2 j u (by simpa using hu);exact ⟨z,t,by simpa using p,q⟩
   ·cases h
theorem gel_cell {s:Option Nat} {v u:V} (h:gel s v = some u):v.isCell = true:=by
 unfold gel at h
 split at h
 all_goals first | rfl | skip
 unfold el at h
 split at h <;> first | rfl | cases h
theorem gels_cell {sh:Sh} {vs us:List V} (h:gels sh vs = some us):∀ v ∈ vs,v.isCell = true:=fun v hv => by
 obtain ⟨j,hj⟩:=List.mem_iff_getElem?.1 hv
 obtain ⟨e1,e2⟩:=gels_len h
 have:=lt_of_get? hj
 obtain ⟨z,s,hz,hg⟩:=gels_get h j us[j] (List.getElem?_eq_getElem (by omega))
 rw [hj] at hz
 cases hz
 exact gel_cell hg
theorem vrel_tok {h:Array Obj} {m:Nat → Nat} {t t':Option Nat} {n:Nat} {es:List (List V)} {x:Value} (hr:VRel h m (.slice t n es) x):VRel h m (.slice t' n es) x:=by
 cases hr with
 | nil => exact .nil _ _
 | empty _ _ a cap => exact .empty _ _ a cap
 | slice _ _ _ b off cap ys hb hcap hrow hc hv hp hm => exact .slice t' n es b off cap ys hb hcap hrow hc hv hp hm
def blk:Value → Option Nat
 | .slice (some a) (_ + 1) _ => some a.block
 | _ => none
theorem blk_pos {a:Addr} {n c:Nat} (h:0 < n):blk (.slice (some a) n c) = some a.block:=by
 cases n with
 | zero => omega
 | succ n => rfl
theorem blk_zed {x:Value} (h:Zed x):blk x = none:=by
 rcases h with rfl | ⟨a,rfl⟩ <;> rfl
theorem gcel_rel {X:Cx} {sh:Option Nat} {v u:V} {y:Value} (h:gcel sh v = some u) (hr:XRel X v y) :
  u.isCell = true ∧ (∀ d,u.men d = false) ∧ XRel ⟨X.h,X.g,X.N,[]⟩ u y ∧ v.isCell = true ∧ ∀ n es,u = .oslice n es → es = [] ∧ Zed y:=by
 have hg:∀ {v u},gel sh v = some u → XRel X v y → u.isCell = true ∧ (∀ d,u.men d = false) ∧ XRel ⟨X.h,X.g,X.N,[]⟩ u y ∧ v.isCell = true ∧ ∀ n es,u = .oslice n es → es = [] ∧ Zed y:=fun {v u} h hr => by
  obtain ⟨h1,h2,h3,h4⟩:=gel_rel h hr
  refine ⟨h1,h2,h3,h4,fun n es e => ?_⟩
  subst e
  exfalso
  unfold gel at h
  split at h
  all_goals first | (cases h;done) | skip
  unfold el at h
  split at h
  all_goals first | (cases h;done) | skip
  split at h <;> cases h
 unfold gcel at h
 split at h
 ·split at h
  ·cases h
   have e:=rel_nils hr
   subst e
   exact ⟨rfl,fun _ => rfl,.oslice (.nil _ _),rfl,fun n es e => by cases e;exact ⟨rfl,.inl rfl⟩⟩
  ·exact hg h hr
 ·cases h
  have hz:=rel_zed hr
  exact ⟨rfl,fun _ => rfl,.oslice (by rcases hz with rfl | ⟨a,rfl⟩ <;> first | exact .nil _ _ | exact .empty _ _ a 0),rfl,fun n es e => by cases e;exact ⟨rfl,hz⟩⟩
 ·exact hg h hr
theorem gcels_len:∀ {sh:Sh} {vs us:List V},gcels sh vs = some us → us.length = sh.length ∧ vs.length = sh.length
 | [],[],us,h => by simp [gcels] at h;subst h;simp
 | [],_ :: _,_,h => by simp [gcels] at h
 | _ :: _,[],_,h => by simp [gcels] at h
 | s :: sh,v :: vs,us,h => by
   simp only [gcels] at h
   split at h
   ·rename_i u us' h1 h2
    cases h
    obtain ⟨a,b⟩:=gcels_len h2
    simp [a,b]
   ·cases h
theorem gcels_get:∀ {sh:Sh} {vs us:List V},gcels sh vs = some us → ∀ (j:Nat) (u:V),us[j]? = some u → ∃ v s,vs[j]? = some v ∧ gcel s v = some u
 | [],[],us,h,j,u,hu => by simp [gcels] at h;subst h;simp at hu
 | [],_ :: _,_,h,_,_,_ => by simp [gcels] at h
 | _ :: _,[],_,h,_,_,_ => by simp [gcels] at h
 | s :: sh,v :: vs,us,h,j,u,hu => by
   simp only [gcels] at h
   split at h
   ·rename_i u' us' h1 h2
    cases h
    cases j with
    | zero => simp at hu;subst hu;exact ⟨v,s,by simp,h1⟩
    | succ j => obtain ⟨z,t,p,q⟩:=gcels_get h2 j u (by simpa using hu);exact ⟨z,t,by simpa using p,q⟩
   ·cases h
theorem gcel_cell {s:Option Nat} {v u:V} (h:gcel s v = some u):v.isCell = true:=by
 unfold gcel at h
 split at h
 ·rfl
 ·rfl
 ·exact gel_cell h
theorem gcels_cell {sh:Sh} {vs us:List V} (h:gcels sh vs = some us):∀ v ∈ vs,v.isCell = true:=fun v hv => by
 obtain ⟨j,hj⟩:=List.mem_iff_getElem?.1 hv
 obtain ⟨e1,e2⟩:=gcels_len h
 have:=lt_of_get? hj
 obtain ⟨z,s,hz,hg⟩:=gcels_get h j us[j] (List.getElem?_eq_getElem (by omega))
 rw [hj] at hz
 cases hz
 exact gcel_cell hg
theorem end_nil {h:Array Obj} {g:Gh} {b j n:Nat} {x:Value} (hz:Zed x):End h g b j n 0 x:=.inl ⟨rfl,hz⟩
theorem glob_lt (hR:R E g S a w) {i:Nat} {o:GObj} (ho:S.glob[i]? = some o):g.γ i < w.heap.size:=by
 obtain ⟨_,h2⟩:=hR.glob i o ho
 have key:∃ ob,w.heap[g.γ i]? = some ob:=by
  cases o with
  | cells cs => obtain ⟨_,c,e,h4,_⟩:=h2;exact ⟨_,h4⟩
  | map es => obtain ⟨_,c,e,h4,_⟩:=h2;exact ⟨_,h4⟩
 obtain ⟨ob,h4⟩:=key
 rcases Nat.lt_or_ge (g.γ i) w.heap.size with h | h
 ·exact h
 ·simp [Array.getElem?_eq_none h] at h4
theorem do_storeG {o:Oper} {t:TypeId} {sh:Sh} {p q:Operand} {x y:Opd} {i off:Nat} {cs vs:List V} {v:V} (ho:o.op = .store t p q) (hdst:o.dst = none) (hs:sizeIn P t = some sh.length) (hp:okOpd p x = true) (hq:okOpd q y = true)
  (hR:R E g S a w) (hx:S.ev x = some (.gptr i off)) (hy:S.ev y = some v) (hob:S.glob[i]? = some (.cells cs)) (hg:gcels sh v.cells = some vs) (hle:off + vs.length ≤ cs.length) :
  Does P E o S { S with glob:=S.glob.set i (.cells (setAll cs off vs)) } a w:=by
 obtain ⟨how,hm,c,e,hh,hcl,hj⟩:=hR.glob i _ hob
 have hi:=lt_of_get? hob
 obtain ⟨e1,e2⟩:=gcels_len hg
 have hcell:=gcels_cell hg
 obtain ⟨hpl,hpx⟩:=rel_cells (ev_rel hR hq hy) hcell
 have hsz:(a.eval q).cells.size = sh.length:=by simp at hpl;omega
 have h1:∀ y ∈ (a.eval q).cells.toList,y.oneCell' = true:=fun y hy => by
  obtain ⟨k,hk⟩:=List.mem_iff_getElem?.1 hy
  have hkl:=lt_of_get? hk
  have hkv:k < v.cells.length:=by omega
  exact rel_oneCell (hpx k v.cells[k] y (List.getElem?_eq_getElem hkv) hk) (hcell _ (List.getElem_mem hkv))
 have hlen:(a.eval q).cells.toList.length = sh.length:=by simpa using hsz
 have hfit:off + (a.eval q).cells.toList.length ≤ c.size:=by omega
 have hrun:=run_storeVar_of (P:=P) (w:=w) hs (v:=a.eval q) hsz hh (o:=off) (by omega) h1
 rw [← hlen] at hrun
 let c':Array Value:=(c.toList.take off ++ (a.eval q).cells.toList ++ c.toList.drop (off + (a.eval q).cells.toList.length)).toArray
 have hnew:(w.setRow (g.γ i) c').heap[g.γ i]? = some (.cells c' e (0,0)):=setRow_heap w _ c c' e _ hh
 have hfresh:E.w0.heap.size ≤ g.γ i ∨ ∃ k,k < E.N0 ∧ E.g0.γ k = g.γ i:=by
  by_cases h:i < E.N0
  ·exact .inr ⟨i,h,(hR.same.γ i h).symm⟩
  ·exact .inl (hR.same.γnew i (by omega) hi)
 have tt:=touch_row (c':=c') (S:=S) (w:=w) hm hfresh (fun _ _ e => by rw [how] at e;cases e)
 have hk:∀ k,Keeps (S.cx g w) ⟨(w.setRow (g.γ i) c').heap,g,S.glob.length,S.toks⟩ k:=fun k => tt.keeps hR (fun e => by cases e) (fun e => by cases e) (fun _ e => by rw [how] at e;cases e)
 have le0:Le ⟨w.heap,g,S.glob.length,[]⟩ ⟨(w.setRow (g.γ i) c').heap,g,S.glob.length,[]⟩:=⟨tt.le.size,tt.le.cells,tt.le.m,tt.le.nle,tt.le.γ⟩
 refine Does.skip (g':=g) (w':=w.setRow (g.γ i) c') ?_ hdst (R.touched tt hR rfl (by simp) (fun i => .inl (hk i)) (fun s v hs => .inl hs) (fun id cs' hi => .inl ⟨hi,(fun e => by cases e),fun _ e => by rw [how] at e;cases e⟩)
  (fun f k b hf hb => .inl ⟨(fun e => by cases e),fun _ e => by rw [how] at e;cases e⟩) (fun k o hko => ?_))
 ·obtain ⟨ep,_⟩:=rel_gptr (ev_rel hR hp hx)
  have hrun':(storeVar t ⟨(S.cx g w).g.γ i,off,none⟩ (a.eval q)).run P w = .ok () (w.setRow (g.γ i) c'):=hrun
  simp only [execOp,ho,ep]
  simp [Instr.storeAt,Instr.sureAddr,hrun']
 ·simp only [List.getElem?_set] at hko
  by_cases hik:i = k
  ·subst hik
   simp [hi] at hko
   subst hko
   refine .inr ⟨how,⟨hm,c',e,hnew,by rw [setAll_len,hcl];exact (splice_size hfit).symm,fun j u z hu hz => ?_⟩,fun j n es z hu hz => ?_⟩
   ·rw [setAll_get] at hu
    rw [show c'[j]? = _ from splice_get hfit j] at hz
    split at hu
    ·rename_i hin
     rw [if_pos (by omega)] at hz
     obtain ⟨u0,s,hu0,hgs⟩:=gcels_get hg _ u hu
     obtain ⟨q1,q2,q3,_⟩:=gcel_rel hgs (hpx (j - off) u0 z hu0 hz)
     exact ⟨q1,q2,q3.mono le0 (fun d => .inr (q2 d))⟩
    ·rename_i hin
     have hjc:=lt_of_get? hu
     rw [if_neg (by omega)] at hz
     obtain ⟨q1,q2,q3⟩:=hj j u z hu hz
     exact ⟨q1,q2,q3.mono le0 (fun d => .inr (q2 d))⟩
   ·rw [setAll_get] at hu
    rw [cellAt_of hnew,show c'[j]? = _ from splice_get hfit j] at hz
    split at hu
    ·rename_i hin
     rw [if_pos (by omega)] at hz
     obtain ⟨u0,s,hu0,hgs⟩:=gcels_get hg _ _ hu
     obtain ⟨_,_,_,_,q5⟩:=gcel_rel hgs (hpx (j - off) u0 z hu0 hz)
     obtain ⟨rfl,hz⟩:=q5 n es rfl
     exact end_nil hz
    ·rename_i hin
     have hjc:=lt_of_get? hu
     rw [if_neg (by omega)] at hz
     rcases hR.glob.own i _ hob j n es z hu (by rw [cellAt_of hh];exact hz) with h | ⟨q,cap,c2,e',q1,q2,q3,q4,q5,q6⟩
     ·exact .inl h
     ·have hne:q ≠ g.γ i:=fun e => by rw [e,how] at q2;cases q2
      exact .inr ⟨q,cap,c2,e',q1,q2,q3,(heap_setRow_ne w _ q c' hne).trans q4,q5,q6⟩
  ·rw [if_neg hik] at hko
   exact .inl ⟨hko,fun _ => ⟨fun e => hik (by rw [how] at e;cases e;rfl),fun _ e => (by rw [how] at e;cases e)⟩⟩
theorem do_store {o:Oper} {t:TypeId} {root:Root} {sh:Sh} {p q:Operand} {x y:Opd} {C:CallF} (ho:o.op = .store t p q) (hdst:o.dst = none) (hs:sizeIn P t = some sh.length) (hp:okOpd p x = true) (hq:okOpd q y = true)
  (hR:R E g S a w) (hrun:VO.run C o.dst S (.store root sh x y) = some S'):Does P E o S S' a w:=by
 simp only [VO.run] at hrun
 cases hfit:S.fits root x with
 | false => simp [hfit] at hrun
 | true =>
   simp only [hfit,cond_true] at hrun
   split at hrun
   ·rename_i id off v hx hy
    split at hrun
    ·rename_i cs hob
     cases hc:(v.cells.length == sh.length && Nat.ble (off + sh.length) cs.length && v.cells.all V.isCell) with
     | false => simp [hc] at hrun
     | true =>
       simp only [hc,cond_true] at hrun
       simp only [Bool.and_eq_true,beq_iff_eq,List.all_eq_true] at hc
       cases hrun
       exact do_storeL ho hdst hs hp hq hR hx hy hob hc.1.1 (Nat.le_of_ble_eq_true hc.1.2) hc.2
    ·cases hrun
   ·rename_i i off v hx hy
    split at hrun
    ·rename_i cs hob
     split at hrun
     ·rename_i vs hg
      cases hc:Nat.ble (off + vs.length) cs.length with
      | false => simp [hc] at hrun
      | true =>
        simp only [hc,cond_true] at hrun
        cases hrun
        exact do_storeG ho hdst hs hp hq hR hx hy hob hg (Nat.le_of_ble_eq_true hc)
     ·cases hrun
    ·cases hrun
   ·cases hrun
theorem do_gbox {o:Oper} {t:TypeId} {sh:Sh} {p:Operand} {x:Opd} {C:CallF} (ho:o.op = .box t p) (hp:okOpd p x = true)
  (hR:R E g S a w) (hd:∀ d,o.dst = some d → d < E.nt) (hrun:VO.run C o.dst S (.gbox sh x) = some S'):Does P E o S S' a w:=by
 simp only [VO.run] at hrun
 split at hrun
 ·rename_i v hv
  split at hrun
  ·rename_i cs hg
   cases hrun
   obtain ⟨e1,e2⟩:=gcels_len hg
   obtain ⟨hl,hx⟩:=rel_cells (ev_rel hR hp hv) (gcels_cell hg)
   let c:Array Value:=(a.eval p).cells
   let g':Gh:={ g with m:=upd g.m w.heap.size 0,γ:=upd g.γ S.glob.length w.heap.size,ow:=upd g.ow w.heap.size (.glob S.glob.length) }
   have hw:(w.alloc (.cells c t)).heap = w.heap.push (.cells c t (0,0)):=rfl
   have t':Touch E g S w g' S.toks (S.glob.length + 1) (w.alloc (.cells c t)) w.heap.size none none:=touch_new hR hw rfl rfl rfl (fun b hb => upd_ne _ _ hb) (fun b hb => upd_ne _ _ hb)
    (fun i _ => rfl) (fun i _ => rfl) (fun i _ => rfl) (fun i _ => rfl) (fun i hi => upd_ne _ _ (by omega)) (by omega) (fun i h1 h2 => by
     have:i = S.glob.length:=by omega
     subst this
     show _ ≤ upd g.γ _ _ _
     rw [upd_same];exact hR.same.size)
   have hkeep:∀ i,Keeps (S.cx g w) ⟨(w.alloc (.cells c t)).heap,g',S.glob.length + 1,S.toks⟩ i:=fun i => t'.keeps hR (fun e => by cases e) (fun e => by cases e) (fun h => absurd h (Nat.lt_irrefl _))
   have le0:Le ⟨w.heap,g,S.glob.length,[]⟩ ⟨(w.alloc (.cells c t)).heap,g',S.glob.length + 1,[]⟩:=⟨t'.le.size,t'.le.cells,t'.le.m,t'.le.nle,t'.le.γ⟩
   have hγ:g'.γ S.glob.length = w.heap.size:=upd_same _ _ _
   have r1:R E g' { S with glob:=S.glob ++ [.cells cs] } a (w.alloc (.cells c t)):=R.touched t' hR rfl (by simp) (fun i => .inl (hkeep i)) (fun s v hs => .inl hs)
    (fun id cs' hi => .inl ⟨hi,(fun e => by cases e),fun h => absurd h (Nat.lt_irrefl _)⟩) (fun f k b hf hb => .inl ⟨(fun e => by cases e),fun h => absurd h (Nat.lt_irrefl _)⟩) (fun k o hko => by
     simp only [List.getElem?_append] at hko
     split at hko
     ·exact .inl ⟨hko,fun h => absurd h (Nat.lt_irrefl _)⟩
     ·rename_i hk
      have:k = S.glob.length:=by
       rcases Nat.eq_zero_or_pos (k - S.glob.length) with h | h
       ·omega
       ·rw [List.getElem?_eq_none (by simp;omega)] at hko;cases hko
      subst this
      simp at hko
      subst hko
      refine .inr ⟨by rw [hγ];exact upd_same _ _ _,⟨by rw [hγ];exact upd_same _ _ _,c,t,by rw [hγ];exact new_heap hw,by (have:v.cells.length = (a.eval p).cells.size:=by simpa using hl);show cs.length = (a.eval p).cells.size;omega,fun j u z hu hz => ?_⟩,fun j n es z hu hz => ?_⟩
      ·obtain ⟨u0,s,hu0,hgs⟩:=gcels_get hg _ u hu
       obtain ⟨q1,q2,q3,_⟩:=gcel_rel hgs (hx j u0 z hu0 (by simpa using hz))
       exact ⟨q1,q2,q3.mono le0 (fun d => .inr (q2 d))⟩
      ·rw [hγ,cellAt_of (new_heap hw)] at hz
       obtain ⟨u0,s,hu0,hgs⟩:=gcels_get hg _ _ hu
       obtain ⟨_,_,_,_,q5⟩:=gcel_rel hgs (hx j u0 z hu0 (by simpa using hz))
       obtain ⟨rfl,hz⟩:=q5 n es rfl
       exact end_nil hz)
   refine Does.value (x:=.pointer (some ⟨w.heap.size,0,none⟩)) (w':=w.alloc (.cells c t)) (g':=g') ?_ (r1.put hd ?_)
   ·simp [execOp,ho,Instr.box,newVar,newRow,c]
   ·rw [← hγ];exact .gptr _ 0 (by simp [St.cx])
  ·cases hrun
 ·cases hrun
theorem do_zlit {o:Oper} {t e:TypeId} {n m:Nat} {C:CallF} (ho:o.op = .buildSlice t 0 #[]) (ht:P.underlying t = some (.slice e)) (hn:sizeIn P e = some m)
  (hR:R E g S a w) (hd:∀ d,o.dst = some d → d < E.nt) (hrun:VO.run C o.dst S (.zlit n) = some S'):Does P E o S S' a w:=by
 simp only [VO.run] at hrun
 cases hrun
 obtain ⟨g',r1,_⟩:=hR.newImm (w':=w.alloc (.cells #[] e)) rfl rfl rfl rfl (n:=n) (ys:=[]) (l:=[]) ⟨by simp,by simp,by simp⟩ (fun j y hj => by simp at hj) (cap:=0) (Nat.le_refl _)
 refine Does.value (x:=.slice (some ⟨w.heap.size,0,none⟩) 0 0) (g':=g') (w':=w.alloc (.cells #[] e)) ?_ (r1.put hd (.zed (.inr ⟨_,rfl⟩)))
 have hz:∀ f:Nat → Value,(Array.range 0).map f = #[]:=fun f => Array.eq_empty_of_size_eq_zero (by simp)
 simp [execOp,ho,Instr.buildSlice,run_underlying' ht,run_sizeOf' hn,Instr.fill,newRow,hz]
theorem do_isnil {o:Oper} {op:BinOp} {t e ty:TypeId} {neg:Bool} {p q:Operand} {x:Opd} {C:CallF} (ho:o.op = .binOp op t p q ty) (hop:op = if neg then .neq else .eql) (ht:P.underlying t = some (.slice e)) (hp:okOpd p x = true) (hq:okOpd q (.c .nils) = true)
  (hR:R E g S a w) (hd:∀ d,o.dst = some d → d < E.nt) (hrun:VO.run C o.dst S (.isnil neg x) = some S'):Does P E o S S' a w:=by
 have h0:=rel_nils (ev_rel (v:=.nils) hR hq rfl)
 have go:∀ (r:Option Addr) (n c:Nat),a.eval p = .slice r n c → (bif neg then !r.isNone else r.isNone) = (bif neg then !r.isNone else r.isNone) → (execOp a.eval o).run P w = .ok (.value (.bool (bif neg then !r.isNone else r.isNone))) w:=fun r n c ev _ => by
  subst hop
  have hg:∀ op,(eqGuard op t p q (.slice r n c) (.slice none 0 0)).run P w = .ok () w:=fun op => by
   cases op <;> simp [eqGuard]
  cases neg
  ·have h1:=Lib.run_eql_slice_nil (P:=P) w t e r n c 0 0 ht
   simp [execOp,ho,ev,h0,hg,h1]
  ·have h1:=run_neq_slice_nil_any (P:=P) w t e r n c 0 0 ht
   simp [execOp,ho,ev,h0,hg,h1]
 simp only [VO.run] at hrun
 split at hrun
 ·rename_i hx
  cases hrun
  have e:=rel_nils (ev_rel hR hp hx)
  have:=go _ _ _ e rfl
  refine Does.put hR hd (x:=.bool !neg) ?_ (XRel.bool _)
  rw [this];cases neg <;> rfl
 ·rename_i n hx
  cases hrun
  obtain ⟨b,cap,e⟩:=rel_nonil (ev_rel hR hp hx)
  have:=go _ _ _ e rfl
  refine Does.put hR hd (x:=.bool neg) ?_ (XRel.bool _)
  rw [this];cases neg <;> rfl
 ·rename_i t' n r rs hx
  cases hrun
  have hr:=ev_rel hR hp hx
  obtain ⟨b,len,cap,e⟩:∃ b len cap,a.eval p = .slice (some b) len cap:=by
   generalize a.eval p = y at hr
   cases hr with
   | plain h _ => cases h with
     | slice _ _ _ b off cap => exact ⟨_,_,_,rfl⟩
  have:=go _ _ _ e rfl
  refine Does.put hR hd (x:=.bool neg) ?_ (XRel.bool _)
  rw [this];cases neg <;> rfl
 ·cases hrun
theorem do_gtake {o:Oper} {t:TypeId} {fam:Nat} {p:Operand} {x:Opd} {C:CallF} (ho:o.op = .load t p) (hs:okSz P t none = true) (hp:okOpd p x = true) (hn:S.noMen fam)
  (hR:R E g S a w) (hd:∀ d,o.dst = some d → d < E.nt) (hrun:VO.run C o.dst S (.gtake fam x) = some S'):Does P E o S S' a w:=by
 simp only [VO.run] at hrun
 split at hrun
 ·rename_i pv hpv
  have hpr:=ev_rel hR hp hpv
  split at hrun
  ·rename_i v ts G htake
   cases hrun
   unfold St.take at htake
   split at htake
   ·rename_i id off
    obtain ⟨ep,hid⟩:=rel_gptr hpr
    split at htake
    ·rename_i cs hob
     obtain ⟨how,hm,c,e,hh,hcl,hj⟩:=hR.glob id _ hob
     have hload:∀ u,cs[off]? = some u → ∃ z,(execOp a.eval o).run P w = .ok (.value z) w ∧ XRel (S.cx g w) u z ∧ c[off]? = some z:=fun u hu => by
      have hc:S.cellsAt (.gptr id off) = some (cs,off):=by simp [St.cellsAt,hob]
      obtain ⟨b,f,e2,hcs⟩:=cellsAt_rel hR hpr hc
      rw [e2] at ep
      injection ep with ep
      injection ep with ep
      injection ep with e3 e4 _
      have e3:b = g.γ id:=e3
      have e4:f = 0:=by omega
      obtain ⟨z,hz,hr⟩:=run_loadVar_of (P:=P) (w:=w) (t:=t) (sz:=none) (off:=off) hs hcs hu
      obtain ⟨y,hy,_⟩:=hcs off u hu
      have hzy:z = y:=by
       have h5:(loadVar t ⟨b,f + off,none⟩).run P w = .ok y w:=by
        simp only [okSz,Bool.and_eq_true,beq_iff_eq] at hs
        simp [loadVar,run_isAgg hs.1,cell?_eq,hy]
       rw [h5] at hz
       injection hz with hz
       exact hz.symm
      rw [hzy] at hz hr
      refine ⟨y,by simp [execOp,ho,Instr.loadAt,e2,Instr.sureAddr,hz],hr,?_⟩
      rw [e3,cellAt_of hh,e4,Nat.zero_add] at hy
      exact hy
     split at htake
     ·rename_i n es hcell
      cases htake
      obtain ⟨z,hex,hr,hz⟩:=hload _ hcell
      have hvr:VRel w.heap g.m (.slice none n es) z:=by
       cases hr with
       | plain h _ => cases h
       | oslice h => exact h
      have hlo:=lt_of_get? hcell
      have hend:=hR.glob.own id _ hob off n es z hcell (by rw [cellAt_of hh];exact hz)
      let τ':Option Nat:=blk z
      have hτ':∀ q,τ' = some q → g.ow q = .cell (g.γ id) off ∧ q < w.heap.size:=fun q hq => by
       rcases hend with ⟨_,e⟩ | ⟨q',cap,c2,e2,e,q2,q3,q4,q5,q6⟩
       ·rw [show τ' = none from blk_zed e] at hq;cases hq
       ·rw [show τ' = some q' by simp only [τ',e];exact blk_pos q6] at hq
        cases hq
        refine ⟨q2,?_⟩
        rcases Nat.lt_or_ge q w.heap.size with h | h
        ·exact h
        ·simp [Array.getElem?_eq_none h] at q4
      let B:Nat:=τ'.getD w.heap.size
      let g':Gh:={ g with τ:=upd g.τ fam τ',ow:=upd g.ow B (.tok fam) }
      have hBlt:B < w.heap.size → g.ow B = .cell (g.γ id) off:=fun hB => by
       cases hτ:τ' with
       | none => simp only [B,hτ,Option.getD_none] at hB;omega
       | some q => simp only [B,hτ,Option.getD_some];exact (hτ' q hτ).1
      have tt:Touch E g S w g' ((fam,es.length) :: S.toks) S.glob.length w B none (some fam) :=
       {os:=rfl,tape:=rfl,output:=rfl,size:=Nat.le_refl _,heap:=fun _ _ _ => rfl,m:=fun _ _ => rfl,ow:=fun b hb => upd_ne _ _ hb,κ:=fun _ _ => rfl,cp:=fun _ _ => rfl,
        τ:=fun i hi => upd_ne _ _ (fun e => hi (by rw [e])),T:=fun i hi => by rw [look_cons,if_neg (fun e => hi (by rw [e]))],γ:=fun _ _ => rfl,nle:=Nat.le_refl _,
        γnew:=fun i a b => absurd a (by omega)
        fresh:=by
         rcases Nat.lt_or_ge B E.w0.heap.size with h | h
         ·exact .inr (.inr (hR.same.cold B _ _ h (hBlt (Nat.lt_of_lt_of_le h hR.same.size))))
         ·exact .inl h
        cold:=fun p q _ e => by
         have e:upd g.ow B (.tok fam) B = .cell p q:=e
         rw [upd_same] at e;cases e
        imm:=fun _ _ _ h => h,mle:=fun _ => Nat.le_refl _ }
      have hkeep:∀ i,Keeps (S.cx g w) ⟨w.heap,g',S.glob.length,(fam,es.length) :: S.toks⟩ i ∨ i = fam:=fun i => by
       by_cases hi:fam = i
       ·exact .inr hi.symm
       ·exact .inl (tt.keeps hR (fun e => by cases e) (fun e => hi (by cases e;rfl)) (fun hB e => by rw [hBlt hB] at e;cases e))
      have hγne:∀ k o,S.glob[k]? = some o → k ≠ id → g.γ k ≠ g.γ id:=fun k o hk hne e => by
       have:=(hR.glob k o hk).1
       rw [e,how] at this
       cases this
       exact hne rfl
      have r1:R E g' { S with toks:=(fam,es.length) :: S.toks,glob:=S.glob.set id (.cells (cs.set off (.slice none n es))) } a w :=
       R.touched (S':={ S with toks:=(fam,es.length) :: S.toks,glob:=S.glob.set id (.cells (cs.set off (.slice none n es))) }) tt hR rfl (by simp) (fun i => (hkeep i).imp (fun z => z) fun e => by rw [e];exact hn) (fun s v hs => .inl hs)
        (fun i cs' ho => .inl ⟨ho,(fun e => by cases e),fun hB e => by rw [hBlt hB] at e;cases e⟩) (fun f k b hf hb => by
         by_cases hff:fam = f
         ·subst hff
          have hb:upd g.τ fam τ' fam = some b:=hb
          rw [upd_same] at hb
          obtain ⟨h1,h2⟩:=hτ' b hb
          have hBb:B = b:=by simp only [B,hb,Option.getD_some]
          refine .inr ⟨by show upd g.ow B _ b = _;rw [hBb,upd_same],?_,h2⟩
          rcases Nat.lt_or_ge b E.w0.heap.size with h | h
          ·exact .inr (hR.same.cold b _ _ h h1)
          ·exact .inl h
         ·exact .inl ⟨fun e => hff (by cases e;rfl),fun hB e => by rw [hBlt hB] at e;cases e⟩) (fun k o hko => by
         simp only [List.getElem?_set] at hko
         by_cases hik:id = k
         ·subst hik
          simp [show id < S.glob.length from lt_of_get? hob] at hko
          subst hko
          have le0:Le ⟨w.heap,g,S.glob.length,[]⟩ ⟨w.heap,g',S.glob.length,[]⟩:=⟨tt.le.size,tt.le.cells,tt.le.m,tt.le.nle,tt.le.γ⟩
          have hγB:g.γ id ≠ B:=fun e => by
           have:=hBlt (e ▸ glob_lt hR hob)
           rw [← e,how] at this;cases this
          refine .inr ⟨(tt.ow _ hγB).trans how,⟨hm,c,e,hh,by rw [List.length_set];exact hcl,fun j u y hu hy => ?_⟩,fun j n' es' y hu hy => ?_⟩
          ·rw [List.getElem?_set] at hu
           by_cases hjo:off = j
           ·subst hjo
            rw [if_pos rfl,if_pos hlo] at hu
            cases hu
            have hyz:y = z:=by have hy:c[off]? = some y:=hy;rw [hz] at hy;exact (Option.some.inj hy).symm
            rw [hyz]
            exact ⟨rfl,fun _ => rfl,.plain hvr (fun _ _ _ e => by cases e)⟩
           ·rw [if_neg hjo] at hu
            obtain ⟨q1,q2,q3⟩:=hj j u y hu hy
            exact ⟨q1,q2,q3.mono le0 (fun d => .inr (q2 d))⟩
          ·rw [List.getElem?_set] at hu
           by_cases hjo:off = j
           ·subst hjo
            rw [if_pos rfl,if_pos hlo] at hu
            cases hu
           ·rw [if_neg hjo] at hu
            rcases hR.glob.own id _ hob j n' es' y hu hy with h | ⟨q,cap,c2,e',q1,q2,q3,q4,q5,q6⟩
            ·exact .inl h
            ·have hqB:q ≠ B:=fun e => by
              have hql:q < w.heap.size:=by
               rcases Nat.lt_or_ge q w.heap.size with h | h
               ·exact h
               ·simp [Array.getElem?_eq_none h] at q4
              rw [e] at q2 hql
              rw [hBlt hql] at q2
              cases q2
              exact hjo rfl
             exact .inr ⟨q,cap,c2,e',q1,(tt.ow q hqB).trans q2,q3,q4,q5,q6⟩
         ·rw [if_neg hik] at hko
          refine .inl ⟨hko,fun hB => ⟨fun e => (by rw [hBlt hB] at e;cases e),fun j e => ?_⟩⟩
          rw [hBlt hB] at e
          injection e with e _
          exact hγne k o hko (fun h => hik h.symm) e.symm)
      refine Does.value (x:=z) (w':=w) (g':=g') hex (r1.put hd (.plain (vrel_tok hvr) (fun f n' es' e k hk => ?_)))
      cases e
      have hk:look fam ((fam,es.length) :: S.toks) = some k:=hk
      rw [look_cons,if_pos rfl] at hk
      cases hk
      refine ⟨Nat.le_refl _,fun _ => ?_⟩
      rcases hend with ⟨e1,e2⟩ | ⟨q,cap,c2,e',q1,q2,q3,q4,q5,q6⟩
      ·exact .inl ⟨e1,e2⟩
      ·refine .inr ⟨q,0,cap,c2,e',?_,q1,by show g.m q = _;omega,q4,by omega,rfl,q6⟩
       show upd g.τ fam τ' fam = _
       rw [upd_same]
       simp only [τ',q1];exact blk_pos q6
     ·rename_i u _ hcell
      cases htake
      obtain ⟨z,hex,hr,hz⟩:=hload _ hcell
      exact Does.put hR hd hex (shed_rel hr)
     ·cases htake
    ·cases htake
   ·cases htake
  ·cases hrun
 ·cases hrun
theorem do_gput {o:Oper} {t:TypeId} {fam:Nat} {p q:Operand} {x y:Opd} {C:CallF} (ho:o.op = .store t p q) (hdst:o.dst = none) (hs:sizeIn P t = some 1) (hp:okOpd p x = true) (hq:okOpd q y = true)
  (hR:R E g S a w) (hrun:VO.run C o.dst S (.gput fam x y) = some S'):Does P E o S S' a w:=by
 simp only [VO.run] at hrun
 split at hrun
 ·rename_i pv v hpv hv
  have hpr:=ev_rel hR hp hpv
  have hvr:=ev_rel hR hq hv
  split at hrun
  ·rename_i ts G hgive
   cases hrun
   unfold St.give at hgive
   split at hgive
   ·rename_i id off f n es
    split at hgive
    ·rename_i cs k hob hk
     have hkk:f = fam ∧ look f S.toks = some k:=by
      cases hff:f == fam with
      | false => rw [hff] at hk;cases hk
      | true =>
        have:=eq_of_beq hff
        subst this
        rw [hff] at hk
        exact ⟨rfl,hk⟩
     obtain ⟨e,hk2⟩:=hkk
     subst e
     clear hk
     have hk:=hk2
     cases hc:(k == es.length && Nat.blt off cs.length) with
     | false => simp [hc] at hgive
     | true =>
       simp only [hc,cond_true,Option.some.injEq,Prod.mk.injEq] at hgive
       obtain ⟨rfl,rfl⟩:=hgive
       simp only [Bool.and_eq_true,beq_iff_eq] at hc
       obtain ⟨rfl,hlt⟩:=hc
       have hlo:off < cs.length:=by simp [Nat.blt] at hlt;omega
       obtain ⟨ep,hid⟩:=rel_gptr hpr
       obtain ⟨how,hm,c,e,hh,hcl,hj⟩:=hR.glob id _ hob
       generalize hyv:a.eval q = yv at hvr
       obtain ⟨hvv,htail⟩:VRel w.heap g.m (.slice (some f) n es) yv ∧ Tail (S.cx g w) f n es.length yv:=by
        cases hvr with
        | plain h ht => exact ⟨h,(ht f n es rfl _ hk).2 rfl⟩
       have hvn:VRel w.heap g.m (.slice none n es) yv:=vrel_tok hvv
       have hone:yv.cells = #[yv]:=hvv.cells
       let c':Array Value:=(c.toList.take off ++ yv.cells.toList ++ c.toList.drop (off + yv.cells.toList.length)).toArray
       have hl1:yv.cells.toList.length = 1:=by rw [hone];rfl
       have hfit:off + yv.cells.toList.length ≤ c.size:=by omega
       have hrun:=run_storeVar_of (P:=P) (w:=w) (t:=t) (n:=1) hs (v:=yv) (by rw [hone];rfl) hh (o:=off) (by omega) (fun y hy => by rw [hone] at hy;simp at hy;subst hy;exact hvv.oneCell)
       rw [← hl1] at hrun
       have hnew:(w.setRow (g.γ id) c').heap[g.γ id]? = some (.cells c' e (0,0)):=setRow_heap w _ c c' e _ hh
       have hget:∀ j,c'[j]? = if j = off then some yv else c[j]?:=fun j => by
        rw [show c'[j]? = _ from splice_get hfit j,hl1,hone]
        by_cases h:j = off
        ·subst h;simp
        ·rw [if_neg (by omega),if_neg h]
       have hfresh:E.w0.heap.size ≤ g.γ id ∨ ∃ k,k < E.N0 ∧ E.g0.γ k = g.γ id:=by
        by_cases h:id < E.N0
        ·exact .inr ⟨id,h,(hR.same.γ id h).symm⟩
        ·exact .inl (hR.same.γnew id (by omega) hid)
       let B:Nat:=(blk yv).getD w.heap.size
       have hB:(es.length = 0 ∧ Zed yv ∧ B = w.heap.size) ∨ ∃ cap c2 e2,yv = .slice (some ⟨B,0,none⟩) es.length cap ∧ g.τ f = some B ∧ g.m B = es.length * n ∧ w.heap[B]? = some (.cells c2 e2 (0,0)) ∧ cap * n ≤ c2.size ∧ 0 < es.length ∧
         g.ow B = .tok f ∧ (E.w0.heap.size ≤ B ∨ E.own B) ∧ B < w.heap.size:=by
        rcases htail with ⟨h1,h2⟩ | ⟨b,o2,cap,c2,e2,h1,h2,h3,h4,h5,h6,h7⟩
        ·exact .inl ⟨h1,h2,by simp only [B,blk_zed h2];rfl⟩
        ·subst h6
         have hBb:B = b:=by simp only [B,h2];rw [blk_pos h7];rfl
         obtain ⟨q1,q2,q3⟩:=hR.toks f _ b hk h1
         rw [hBb]
         exact .inr ⟨cap,c2,e2,h2,h1,by have h3:g.m b = 0 + es.length * n:=h3;omega,h4,by omega,h7,q1,q2,q3⟩
       have hBow:B < w.heap.size → g.ow B = .tok f:=fun h => by
        rcases hB with ⟨_,_,e⟩ | ⟨_,_,_,_,_,_,_,_,_,h8,_⟩
        ·omega
        ·exact h8
       have hBγ:∀ k o,S.glob[k]? = some o → g.γ k ≠ B:=fun k o hk2 e => by
        have h1:=(hR.glob k o hk2).1
        have h2:=hBow (e ▸ glob_lt hR hk2)
        rw [← e,h1] at h2
        cases h2
       let g1:Gh:={ g with τ:=upd g.τ f none,ow:=upd g.ow B (.cell (g.γ id) off) }
       have t1:Touch E g S w g1 ((f,es.length + 1) :: S.toks) S.glob.length w B none (some f) :=
        {os:=rfl,tape:=rfl,output:=rfl,size:=Nat.le_refl _,heap:=fun _ _ _ => rfl,m:=fun _ _ => rfl,ow:=fun b hb => upd_ne _ _ hb,κ:=fun _ _ => rfl,cp:=fun _ _ => rfl,
         τ:=fun i hi => upd_ne _ _ (fun e => hi (by rw [e])),T:=fun i hi => by rw [look_cons,if_neg (fun e => hi (by rw [e]))],γ:=fun _ _ => rfl,nle:=Nat.le_refl _,
         γnew:=fun i a b => absurd a (by omega)
         fresh:=by
          rcases hB with ⟨_,_,e⟩ | ⟨_,_,_,_,_,_,_,_,_,_,h9,_⟩
          ·exact .inl (by rw [e];exact hR.same.size)
          ·exact h9.imp (fun z => z) .inr
         cold:=fun p q hlt _ => by
          rcases hB with ⟨_,_,e⟩ | ⟨_,_,_,_,_,_,_,_,_,_,h9,_⟩
          ·have:=hR.same.size;omega
          ·exact h9.resolve_left (by omega)
         imm:=fun _ _ _ h => h,mle:=fun _ => Nat.le_refl _ }
       have k1:∀ i,Keeps (S.cx g w) ⟨w.heap,g1,S.glob.length,(f,es.length + 1) :: S.toks⟩ i:=fun i => by
        by_cases hi:f = i
        ·subst hi
         refine ⟨rfl,rfl,fun k' hk' => ⟨es.length,hk,?_,fun e => ?_⟩⟩
         ·simp only [look_cons,if_true,Option.some.injEq] at hk';omega
         ·simp only [look_cons,if_true,Option.some.injEq] at hk';omega
        ·exact t1.keeps hR (fun e => by cases e) (fun e => hi (by cases e;rfl)) (fun hb e => hi (by rw [hBow hb] at e;cases e;rfl))
       have r1:R E g1 { S with toks:=(f,es.length + 1) :: S.toks } a w:=R.touched (S':={ S with toks:=(f,es.length + 1) :: S.toks }) t1 hR rfl rfl (fun i => .inl (k1 i)) (fun s v hs => .inl hs)
        (fun i cs' ho => .inl ⟨ho,(fun e => by cases e),fun hb e => by rw [hBow hb] at e;cases e⟩) (fun f' k' b hf hb => by
         by_cases hff:f = f'
         ·subst hff
          have hb:upd g.τ f none f = some b:=hb
          rw [upd_same] at hb
          cases hb
         ·exact .inl ⟨fun e => hff (by cases e;rfl),fun hb e => by rw [hBow hb] at e;cases e;exact hff rfl⟩) (fun i o hi => .inl ⟨hi,fun hb => ⟨fun e => (by rw [hBow hb] at e;cases e),fun _ e => (by rw [hBow hb] at e;cases e)⟩⟩)
       have how1:g1.ow (g.γ id) = .glob id:=(upd_ne _ _ (hBγ id _ hob)).trans how
       have t2:=touch_row (g:=g1) (c':=c') (S:={ S with toks:=(f,es.length + 1) :: S.toks }) (w:=w) (b:=g.γ id) hm hfresh (fun _ _ e => by rw [how1] at e;cases e)
       have k2:∀ i,Keeps (({ S with toks:=(f,es.length + 1) :: S.toks }:St).cx g1 w) ⟨(w.setRow (g.γ id) c').heap,g1,S.glob.length,(f,es.length + 1) :: S.toks⟩ i:=fun i => t2.keeps r1 (fun e => by cases e) (fun e => by cases e) (fun _ e => by rw [how1] at e;cases e)
       have le0:Le ⟨w.heap,g,S.glob.length,[]⟩ ⟨(w.setRow (g.γ id) c').heap,g1,S.glob.length,[]⟩:=⟨t2.le.size,t2.le.cells,t2.le.m,t2.le.nle,t2.le.γ⟩
       refine Does.skip (g':=g1) (w':=w.setRow (g.γ id) c') ?_ hdst (R.touched (S':={ S with toks:=(f,es.length + 1) :: S.toks,glob:=S.glob.set id (.cells (cs.set off (.oslice n es))) }) t2 r1 rfl (by simp) (fun i => .inl (k2 i)) (fun s v hs => .inl hs)
        (fun i cs' hi => .inl ⟨hi,(fun e => by cases e),fun _ e => by rw [how1] at e;cases e⟩)
        (fun f k b hf hb => .inl ⟨(fun e => by cases e),fun _ e => by rw [how1] at e;cases e⟩) (fun k o hko => ?_))
       ·have hrun':(storeVar t ⟨(S.cx g w).g.γ id,off,none⟩ yv).run P w = .ok () (w.setRow (g.γ id) c'):=hrun
        simp only [execOp,ho,ep,hyv]
        simp [Instr.storeAt,Instr.sureAddr,hrun']
       ·simp only [List.getElem?_set] at hko
        by_cases hik:id = k
        ·subst hik
         simp [show id < S.glob.length from lt_of_get? hob] at hko
         subst hko
         refine .inr ⟨how1,⟨hm,c',e,hnew,by rw [List.length_set,hcl];exact (splice_size hfit).symm,fun j u z hu hz => ?_⟩,fun j n' es' z hu hz => ?_⟩
         ·rw [hget] at hz
          rw [List.getElem?_set] at hu
          by_cases hjo:off = j
          ·subst hjo
           rw [if_pos rfl,if_pos hlo] at hu
           rw [if_pos rfl] at hz
           cases hu
           cases hz
           exact ⟨rfl,fun _ => rfl,.oslice (hvn.mono le0)⟩
          ·rw [if_neg hjo] at hu
           rw [if_neg (fun e => hjo e.symm)] at hz
           obtain ⟨q1,q2,q3⟩:=hj j u z hu hz
           exact ⟨q1,q2,q3.mono le0 (fun d => .inr (q2 d))⟩
         ·have hz:cellAt (w.setRow (g.γ id) c').heap (g.γ id) j = some z:=hz
          rw [cellAt_of hnew,hget] at hz
          rw [List.getElem?_set] at hu
          by_cases hjo:off = j
          ·subst hjo
           rw [if_pos rfl,if_pos hlo] at hu
           rw [if_pos rfl] at hz
           cases hu
           cases hz
           rcases hB with ⟨h1,h2,_⟩ | ⟨cap,c2,e2,h1,h2,h3,h4,h5,h6,_⟩
           ·exact .inl ⟨h1,h2⟩
           ·exact .inr ⟨B,cap,c2,e2,h1,upd_same _ _ _,h3,(heap_setRow_ne w _ B c' (fun e => hBγ id _ hob e.symm)).trans h4,h5,h6⟩
          ·rw [if_neg hjo] at hu
           rw [if_neg (fun e => hjo e.symm)] at hz
           rcases hR.glob.own id _ hob j n' es' z hu (by rw [cellAt_of hh];exact hz) with h | ⟨q,cap,c2,e',q1,q2,q3,q4,q5,q6⟩
           ·exact .inl h
           ·have hql:q < w.heap.size:=by
             rcases Nat.lt_or_ge q w.heap.size with h | h
             ·exact h
             ·simp [Array.getElem?_eq_none h] at q4
            have hqB:q ≠ B:=fun e => by rw [e] at q2 hql;rw [hBow hql] at q2;cases q2
            have hne:q ≠ g.γ id:=fun e => by rw [e,how] at q2;cases q2
            exact .inr ⟨q,cap,c2,e',q1,(upd_ne _ _ hqB).trans q2,q3,(heap_setRow_ne w _ q c' hne).trans q4,q5,q6⟩
        ·rw [if_neg hik] at hko
         exact .inl ⟨hko,fun _ => ⟨fun e => hik (by rw [how1] at e;cases e;rfl),fun _ e => (by rw [how1] at e;cases e)⟩⟩
    ·cases hgive
   ·cases hgive
  ·cases hrun
 ·cases hrun
theorem do_slc {o:Oper} {t e:TypeId} {sz:Nat} {p:Operand} {lo hi:Option Operand} {x:Opd} {lo' hi':Option Opd} {C:CallF} (ho:o.op = .slice t p lo hi none) (ht:P.underlying t = some (.slice e)) (hs:sizeIn P e = some sz)
  (hp:okOpd p x = true) (hlo:match lo,lo' with | none,none => True | some y,some z => okOpd y z = true | _,_ => False) (hhi:match hi,hi' with | none,none => True | some y,some z => okOpd y z = true | _,_ => False)
  (hR:R E g S a w) (hd:∀ d,o.dst = some d → d < E.nt) (hrun:VO.run C o.dst S (.slc sz x lo' hi') = some S'):Does P E o S S' a w:=by
 simp only [VO.run] at hrun
 split at hrun
 ·rename_i tk m es hx
  split at hrun
  ·rename_i k1 l k2 h hl hh
   cases hc:(decide (0 ≤ l) && decide (l ≤ h) && decide (h ≤ (es.length:Int)) && (m == sz)) with
   | false => simp [hc] at hrun
   | true =>
     simp only [hc,cond_true] at hrun
     cases hrun
     simp only [Bool.and_eq_true,decide_eq_true_eq,beq_iff_eq] at hc
     obtain ⟨⟨⟨h0,h1⟩,h2⟩,rfl⟩:=hc
     have hr:=ev_rel hR hp hx
     obtain ⟨base,cap,e1,hcap⟩:∃ base cap,a.eval p = .slice base es.length cap ∧ es.length ≤ cap:=by
      generalize a.eval p = y at hr
      cases hr with
      | plain h _ => cases h with
        | nil => exact ⟨none,0,rfl,by simp⟩
        | empty _ _ a cap => exact ⟨some a,cap,rfl,by simp⟩
        | slice _ _ _ b off cap ys hb hcap => exact ⟨_,cap,rfl,hcap⟩
     have blo:(match lo.map a.eval with | some v => Instr.sliceBound v h.toNat .sliceB | none => pure 0).run P w = .ok l.toNat w:=by
      cases lo with
      | none =>
        cases lo' with
        | none => simp [St.evOr] at hl;obtain ⟨_,rfl⟩:=hl;simp
        | some z => exact hlo.elim
      | some y =>
        cases lo' with
        | none => exact hlo.elim
        | some z =>
          have:=rel_int (ev_rel hR hlo hl)
          simp only [Option.map_some,this]
          exact run_sliceBound w k1 l h.toNat .sliceB h0 (by omega)
     have bhi:(match hi.map a.eval with | some v => Instr.sliceBound v cap .sliceAcap | none => pure es.length).run P w = .ok h.toNat w:=by
      cases hi with
      | none =>
        cases hi' with
        | none => simp [St.evOr] at hh;obtain ⟨_,rfl⟩:=hh;simp
        | some z => exact hhi.elim
      | some y =>
        cases hi' with
        | none => exact hhi.elim
        | some z =>
          have:=rel_int (ev_rel hR hhi hh)
          simp only [Option.map_some,this]
          exact run_sliceBound w k2 h cap .sliceAcap (by omega) (by omega)
     have hbounds:(Instr.sliceBounds true es.length cap (lo.map a.eval) (hi.map a.eval) none).run P w = .ok (l.toNat,h.toNat,cap) w:=by
      unfold Instr.sliceBounds
      cases hi with
      | none =>
        simp only [Option.map_none] at bhi
        simp only [Sem.run_pure,Result.ok.injEq,and_true] at bhi
        cases lo with
        | none =>
          simp only [Option.map_none,Sem.run_pure,Result.ok.injEq,and_true] at blo
          simp [← bhi,← blo]
        | some y =>
          simp only [Option.map_some] at blo
          simp [bhi,blo]
      | some z =>
        simp only [Option.map_some] at bhi
        cases lo with
        | none =>
          simp only [Option.map_none,Sem.run_pure,Result.ok.injEq,and_true] at blo
          simp [bhi,← blo]
        | some y =>
          simp only [Option.map_some] at blo
          simp [bhi,blo]
     have hexec:(execOp a.eval o).run P w = .ok (.value (.slice (if cap = l.toNat then base else base.map (·.add (l.toNat * m))) (h.toNat - l.toNat) (cap - l.toNat))) w:=by
      simp only [execOp,ho,e1,Instr.sliceAt,Instr.slice]
      simp [run_underlying' ht,hbounds,run_sizeOf' hs]
     have hlen:((es.take h.toNat).drop l.toNat).length = h.toNat - l.toNat:=by simp;omega
     refine Does.put hR hd hexec ?_
     clear blo bhi hbounds hexec
     generalize a.eval p = y at hr e1
     subst e1
     refine .plain ?_ (fun _ _ _ e => by cases e)
     cases hr with
     | plain hv _ =>
       cases hv with
       | nil =>
         have hl0:l.toNat = 0:=by simp at h2;omega
         have hh0:h.toNat = 0:=by simp at h2;omega
         simp [hl0,hh0]
         exact .nil _ _
       | empty _ _ a' cap' =>
         have hl0:l.toNat = 0:=by simp at h2;omega
         have hh0:h.toNat = 0:=by simp at h2;omega
         simp only [hl0,hh0,Nat.sub_zero,List.take_zero,List.drop_zero]
         split
         ·exact .empty _ _ _ _
         ·exact .empty _ _ _ _
       | slice _ _ _ b off _ ys hb hc2 hrow hc hv hp hm =>
         rw [← hlen]
         by_cases hcl:cap = l.toNat
         ·rw [if_pos hcl]
          have h3:(es.take h.toNat).drop l.toNat = []:=List.length_eq_zero_iff.1 (by rw [hlen];omega)
          rw [h3]
          exact .slice none m [] b off _ ys hb (by simp) (by simp) (by simp) (by simp) (by simp) (by simp;omega)
         ·rw [if_neg hcl]
          simp only [Option.map_some,addr_add]
          have hget:∀ (i:Nat) (row:List V),((es.take h.toNat).drop l.toNat)[i]? = some row → es[l.toNat + i]? = some row:=fun i row hi => by
           rw [List.getElem?_drop,List.getElem?_take] at hi
           split at hi
           ·exact hi
           ·cases hi
          refine .slice none m _ b (off + l.toNat * m) _ (fun i j => ys (l.toNat + i) j) hb (by rw [hlen];omega) (fun i row hi => hrow _ row (hget i row hi)) (fun i row j v hi hj => ?_) (fun i row j v hi hj => hv _ row j v (hget i row hi) hj)
           (fun i row j v hi hj => hp _ row j v (hget i row hi) hj) ?_
          ·rw [← hc _ row j v (hget i row hi) hj]
           congr 1
           rw [Nat.add_mul];omega
          ·have:(l.toNat + (h.toNat - l.toNat)) * m ≤ es.length * m:=Nat.mul_le_mul_right m (by omega)
           rw [Nat.add_mul] at this
           rw [hlen]
           omega
  ·cases hrun
 ·cases hrun
end
end Go.Vm
