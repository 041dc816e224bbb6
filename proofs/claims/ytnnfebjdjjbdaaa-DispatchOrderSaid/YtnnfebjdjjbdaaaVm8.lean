/-
  The value machine, 8: literals, stores, make, blocks that calls share.
-/
import Derived.Great.BuildSlice
import Derived.IntWalk
import Derived.Laws.Slices
import Derived.Test.YtnnfebjdjjbdaaaVm7
namespace Go.Vm
set_option linter.all false

section
variable {P : Program} {E : Entry} {g g' : Gh} {S S' : St} {a : Act} {w w' : World} {T' : List (Nat × Nat)} {N' B : Nat}

theorem putAt_get (off k : Nat) : ∀ (vs : List Value) (i : Nat) (cs : Array Value), ((vs.zipIdx i).foldl (fun cs (p : Value × Nat) => cs.setIfInBounds (off + p.2) p.1) cs)[k]? =
    if off + i ≤ k ∧ k < off + i + vs.length ∧ k < cs.size then vs[k - (off + i)]? else cs[k]?
  | [], i, cs => by simp; omega
  | v :: vs, i, cs => by
    rw [List.zipIdx_cons, List.foldl_cons, putAt_get off k vs (i + 1)]
    simp only [Array.size_setIfInBounds, List.length_cons, Array.getElem?_setIfInBounds]
    by_cases h : off + (i + 1) ≤ k ∧ k < off + (i + 1) + vs.length ∧ k < cs.size
    · rw [if_pos h, if_pos (by omega), show k - (off + i) = (k - (off + (i + 1))) + 1 from by omega, List.getElem?_cons_succ]
    · rw [if_neg h]
      by_cases he : off + i = k
      · subst he
        by_cases hlt : off + i < cs.size
        · simp [hlt]
        · simp [hlt]
      · rw [if_neg he, if_neg (by omega)]

theorem setAll_get (k : Nat) : ∀ (vs : List V) (off : Nat) (cs : List V), (setAll cs off vs)[k]? = if off ≤ k ∧ k < off + vs.length ∧ k < cs.length then vs[k - off]? else cs[k]?
  | [], off, cs => by simp [setAll]; omega
  | v :: vs, off, cs => by
    rw [setAll, setAll_get k vs (off + 1)]
    simp only [List.length_set, List.length_cons, List.getElem?_set]
    by_cases h : off + 1 ≤ k ∧ k < off + 1 + vs.length ∧ k < cs.length
    · rw [if_pos h, if_pos (by omega), show k - off = (k - (off + 1)) + 1 from by omega, List.getElem?_cons_succ]
    · rw [if_neg h]
      by_cases he : off = k
      · subst he
        by_cases hlt : off < cs.length
        · simp [hlt]
        · simp [hlt]
      · rw [if_neg he, if_neg (by omega)]

theorem setAll_len : ∀ (vs : List V) (off : Nat) (cs : List V), (setAll cs off vs).length = cs.length
  | [], off, cs => rfl
  | v :: vs, off, cs => by rw [setAll, setAll_len vs]; simp

theorem putAt_size (off : Nat) : ∀ (vs : List Value) (i : Nat) (cs : Array Value), ((vs.zipIdx i).foldl (fun cs (p : Value × Nat) => cs.setIfInBounds (off + p.2) p.1) cs).size = cs.size
  | [], i, cs => rfl
  | v :: vs, i, cs => by rw [List.zipIdx_cons, List.foldl_cons, putAt_size off vs]; simp

theorem fold_zip (off : Nat) (vs cs : Array Value) : vs.zipIdx.foldl (fun (cs : Array Value) (x : Value × Nat) => match x with | (c, j) => cs.setIfInBounds (off + j) c) cs =
    (vs.toList.zipIdx 0).foldl (fun cs (p : Value × Nat) => cs.setIfInBounds (off + p.2) p.1) cs := by
  rw [← Array.foldl_toList, Array.toList_zipIdx]

def okParts (place : Nat → Option (Nat × Nat)) : List (Nat × Operand) → List (Nat × Nat × Opd) → Bool
  | [], [] => true
  | (i, y) :: ps, (off, n, x) :: qs => place i == some (off, n) && okOpd y x && okParts place ps qs
  | _, _ => false

theorem fill_rel (hR : R E g S a w) {place : Nat → Option (Nat × Nat)} : ∀ {ps : List (Nat × Operand)} {qs : List (Nat × Nat × Opd)}, okParts place ps qs = true → ∀ {cs cs' : List V} {xs : Array Value}, fillParts S qs cs = some cs' →
    PW (S.cx g w) cs xs.toList → ∃ xs', Instr.fill place xs (ps.map fun (i, x) => (i, a.eval x)) = some xs' ∧ PW (S.cx g w) cs' xs'.toList
  | [], [], _, cs, cs', xs, h, hp => by simp only [fillParts, Option.some.injEq] at h; subst h; exact ⟨xs, rfl, hp⟩
  | [], _ :: _, h, _, _, _, _, _ => by simp [okParts] at h
  | _ :: _, [], h, _, _, _, _, _ => by simp [okParts] at h
  | (i, y) :: ps, (off, n, x) :: qs, h, cs, cs', xs, hf, hp => by
    simp only [okParts, Bool.and_eq_true, beq_iff_eq] at h
    obtain ⟨⟨hpl, ho⟩, hok⟩ := h
    simp only [fillParts] at hf
    split at hf
    · rename_i v hv
      cases hc : (v.cells.length == n && Nat.ble (off + n) cs.length && v.cells.all V.isCell) with
      | false => simp [hc] at hf
      | true =>
        simp only [hc, cond_true] at hf
        simp only [Bool.and_eq_true, beq_iff_eq, List.all_eq_true] at hc
        obtain ⟨⟨hlen, hle⟩, hcell⟩ := hc
        have hle := Nat.le_of_ble_eq_true hle
        obtain ⟨hl, hx⟩ := rel_cells (ev_rel hR ho hv) hcell
        have hsz : (a.eval y).cells.size = n := by simpa [hlen] using hl.symm
        have hpl' := hp.len
        simp only [Array.length_toList] at hpl'
        obtain ⟨xs', h1, h2⟩ := fill_rel hR (ps := ps) (xs := ((a.eval y).cells.toList.zipIdx 0).foldl (fun cs (p : Value × Nat) => cs.setIfInBounds (off + p.2) p.1) xs) hok hf (by
          refine ⟨by rw [setAll_len, hpl']; exact (putAt_size off _ _ _).symm, fun j u z hu hz => ?_⟩
          rw [setAll_get] at hu
          rw [Array.getElem?_toList, putAt_get] at hz
          simp only [Nat.add_zero, Array.length_toList, hsz, hlen, hpl'] at hu hz
          split at hu
          · rename_i hin
            rw [if_pos hin] at hz
            exact hx _ u z hu hz
          · rename_i hin
            rw [if_neg hin] at hz
            exact hp.at_ j u z hu (by simpa using hz))
        refine ⟨xs', ?_, h2⟩
        simp only [List.map_cons, Instr.fill, hpl, hsz, Bool.false_or, ne_eq, not_true_eq_false, decide_false]
        rw [fold_zip]
        rw [if_neg (by simp; omega)]
        exact h1
    · cases hf


def placeOf (P : Program) (t : TypeId) : Option (Nat → Option (Nat × Nat)) :=
  match P.underlying t with
  | some (.array _ e) => (P.info? e).map fun ie i => some (i * ie.size, ie.size)
  | some (.struct fields) => (fields.toList.mapM (fun f => (P.info? f.type).map fun i => (f.offset, i.size))).map fun places i => places.toArray[i]?
  | _ => none

theorem built_of {t : TypeId} {it : TypeInfo} {z : Value} {place : Nat → Option (Nat × Nat)} (hi : P.info? t = some it) (hz : it.zero = some z) (hp : placeOf P t = some place) (parts : List (Nat × Value)) :
    P.built t parts = Instr.fill place z.cells parts := by
  unfold placeOf at hp
  unfold Program.built
  split at hp
  · rename_i n e hu
    cases hie : P.info? e with
    | none => simp [hie] at hp
    | some ie => simp [hie] at hp; subst hp; simp [hi, hu, hz, hie]
  · rename_i fields hu
    cases hm : fields.toList.mapM (fun f => (P.info? f.type).map fun i => (f.offset, i.size)) with
    | none => simp [hm] at hp
    | some places => simp [hm] at hp; subst hp; simp [hi, hu, hz, hm]
  · cases hp

theorem do_build {o : Oper} {t : TypeId} {it : TypeInfo} {z : Value} {place : Nat → Option (Nat × Nat)} {ps : Array (Nat × Operand)} {zero : List V} {qs : List (Nat × Nat × Opd)} {C : CallF} (ho : o.op = .build t ps)
    (hi : P.info? t = some it) (hz : it.zero = some z) (hpl : placeOf P t = some place) (hzero : okVals z.cells.toList zero = true) (hparts : okParts place ps.toList qs = true)
    (hR : R E g S a w) (hd : ∀ d, o.dst = some d → d < E.nt) (hrun : VO.run C o.dst S (.build zero qs) = some S') : Does P E o S S' a w := by
  simp only [VO.run] at hrun
  split at hrun
  · rename_i cs hf
    cases hrun
    obtain ⟨hl, hx⟩ := okVals_rel (X := S.cx g w) hzero
    obtain ⟨xs, h1, h2⟩ := fill_rel hR hparts (xs := z.cells) hf ⟨hl, fun i v y hv hy => (hx i v y hv hy).2.2⟩
    refine Does.put hR hd (x := .agg xs) ?_ (.agg cs xs (by simpa using h2.len) (fun i v y hv hy => h2.at_ i v y hv (by simpa using hy)))
    have hb := built_of hi hz hpl ((ps.map fun (i, x) => (i, a.eval x)).toList)
    rw [Array.toList_map, h1] at hb
    have := run_build (P := P) w t (ps.map fun (i, x) => (i, a.eval x)) xs (by rw [Array.toList_map]; exact hb)
    simp only [execOp, ho]
    simp only [Sem.run_bind, this, Result.andThen_ok, Sem.run_pure]
  · cases hrun

/-- A new block that nobody writes. -/
theorem R.newImm (hR : R E g S a w) {c : Array Value} {e : TypeId} (hw : w'.heap = w.heap.push (.cells c e (0, 0))) (h1 : w'.os = w.os) (h2 : w'.tape = w.tape) (h3 : w'.output = w.output)
    {n : Nat} {ys : List (List V)} {l : List Value} (hl : RowsRel w.heap g.m n ys l) (hc : ∀ (j : Nat) (y : Value), l[j]? = some y → c[j]? = some y) {cap : Nat} (hcap : ys.length ≤ cap) :
    ∃ g', R E g' S a w' ∧ XRel (S.cx g' w') (.slice none n ys) (.slice (some ⟨w.heap.size, 0, none⟩) ys.length cap) := by
  let g' : Gh := { g with m := upd g.m w.heap.size (ys.length * n) }
  have t : Touch E g S w g' S.toks S.glob.length w' w.heap.size none none := touch_new hR hw h1 h2 h3 (fun b hb => upd_ne _ _ hb) (fun b hb => rfl)
    (fun i _ => rfl) (fun i _ => rfl) (fun i _ => rfl) (fun i _ => rfl) (fun i _ => rfl) (Nat.le_refl _) (fun i a b => absurd a (by omega))
  have hnew := new_heap hw
  refine ⟨g', R.touched t hR rfl rfl (fun i => .inl (t.keeps hR (fun e => by cases e) (fun e => by cases e) (fun h => absurd h (Nat.lt_irrefl _)))) (fun s v hs => .inl hs)
    (fun i cs ho => .inl ⟨ho, (fun e => by cases e), fun h => absurd h (Nat.lt_irrefl _)⟩) (fun i k b hi hb => .inl ⟨(fun e => by cases e), fun h => absurd h (Nat.lt_irrefl _)⟩)
    (fun i o ho => .inl ⟨ho, fun h => absurd h (Nat.lt_irrefl _)⟩), ?_⟩
  have hm : g'.m w.heap.size = ys.length * n := upd_same _ _ _
  refine .plain (vrel_of_block (m := g'.m) (l := l) (hl.mono t.le) (by show _ < w'.heap.size; rw [hw]; simp) hcap (fun j y hj => ?_) (by omega) _) (fun i n' es' he k hk => by cases he)
  show cellAt w'.heap _ _ = _
  rw [cellAt_of hnew, Nat.zero_add]; exact hc j y hj

/- rows that are filled -/

def okEl0 : Value → Option Nat → V → Bool
  | .int k n, none, .int k' n' => decide (k = k') && n == n'
  | .bool b, none, .bool c => b == c
  | .string s, none, .str l => s.data.toList == l
  | .slice none 0 0, some n, .slice none m [] => n == m
  | _, _, _ => false

def okEls : List Value → Sh → List V → Bool
  | [], [], [] => true
  | x :: xs, h :: sh, v :: vs => okEl0 x h v && okEls xs sh vs
  | _, _, _ => false

theorem okEl0_rel {h : Array Obj} {m : Nat → Nat} {x : Value} {s : Option Nat} {v : V} (he : okEl0 x s v = true) : v.plain = true ∧ VRel h m v x := by
  unfold okEl0 at he
  split at he
  · simp at he; obtain ⟨rfl, rfl⟩ := he; exact ⟨rfl, .int _ _⟩
  · simp at he; subst he; exact ⟨rfl, .bool _⟩
  · simp at he; subst he; exact ⟨rfl, .str _⟩
  · exact ⟨rfl, .nil _ _⟩
  · cases he

theorem okEls_rel {h : Array Obj} {m : Nat → Nat} : ∀ {xs : List Value} {sh : Sh} {vs : List V}, okEls xs sh vs = true → vs.length = sh.length ∧ xs.length = sh.length ∧
    ∀ (i : Nat) (v : V), vs[i]? = some v → ∃ x, xs[i]? = some x ∧ v.plain = true ∧ VRel h m v x
  | [], [], [], _ => by simp
  | x :: xs, s :: sh, v :: vs, he => by
    simp only [okEls, Bool.and_eq_true] at he
    obtain ⟨p, q, r⟩ := okEls_rel (h := h) (m := m) he.2
    refine ⟨by simp [p], by simp [q], fun i u hu => ?_⟩
    cases i with
    | zero => simp at hu; subst hu; exact ⟨x, by simp, okEl0_rel he.1⟩
    | succ i => obtain ⟨y, hy, z⟩ := r i u (by simpa using hu); exact ⟨y, by simpa using hy, z⟩
  | [], [], _ :: _, he => by simp [okEls] at he
  | [], _ :: _, _, he => by simp [okEls] at he
  | _ :: _, [], _, he => by simp [okEls] at he
  | _ :: _, _ :: _, [], he => by simp [okEls] at he

theorem rows_zero {h : Array Obj} {m : Nat → Nat} {sh : Sh} {zs : List Value} {zero : List V} (hz : okEls zs sh zero = true) (n : Nat) :
    RowsRel h m sh.length (List.replicate n zero) ((List.range (n * sh.length)).map fun k => zs.getD (k % sh.length) default) := by
  obtain ⟨hl, hl2, hx⟩ := okEls_rel (h := h) (m := m) hz
  refine ⟨by simp, fun i row hr => ?_, fun i row j v hr hj => ?_⟩
  · rw [List.getElem?_replicate] at hr
    split at hr <;> cases hr
    exact hl
  · rw [List.getElem?_replicate] at hr
    split at hr
    · rename_i hi
      cases hr
      obtain ⟨u, hu, p, q⟩ := hx j v hj
      have hjl : j < zs.length := lt_of_get? hu
      have hjs : j < sh.length := by omega
      refine ⟨p, u, ?_, q⟩
      have := mul_lt hi hjs
      simp only [List.getElem?_map, List.getElem?_range this, Option.map_some, Option.some.injEq]
      rw [Nat.add_comm, Nat.add_mul_mod_self_right, Nat.mod_eq_of_lt hjs]
      simp [List.getD, hu]
    · cases hr

def okRows (len : Nat) : List (Nat × Operand) → List (Nat × Opd) → Bool
  | [], [] => true
  | (i, y) :: ps, (k, x) :: qs => i == k && okOpd y x && okRows len ps qs
  | _, _ => false

theorem els_cells {sh : Sh} {v : V} {r : List V} (h : els sh v.cells = some r) : ∀ u ∈ v.cells, u.isCell = true := fun u hu => by
  have : ∀ {sh : Sh} {vs us : List V}, els sh vs = some us → ∀ u ∈ vs, u.isCell = true := by
    intro sh
    induction sh with
    | nil => intro vs us h u hu; cases vs <;> simp_all [els]
    | cons s sh ih =>
      intro vs us h u hu
      cases vs with
      | nil => simp at hu
      | cons z zs =>
        simp only [els] at h
        split at h
        · rename_i p q h1 h2
          rcases List.mem_cons.1 hu with e | e
          · subst e
            unfold el at h1
            split at h1 <;> first | rfl | cases h1
          · exact ih h2 u e
        · cases h
  exact this h u hu

theorem fillRows_rel (hR : R E g S a w) {sh : Sh} : ∀ {ps : List (Nat × Operand)} {qs : List (Nat × Opd)} {len : Nat}, okRows len ps qs = true → ∀ {rs rs' : List (List V)} {xs : Array Value}, fillRows S sh qs rs = some rs' →
    RowsRel w.heap g.m sh.length rs xs.toList → ∃ xs', Instr.fill (fun i => some (i * sh.length, sh.length)) xs (ps.map fun (i, x) => (i, a.eval x)) = some xs' ∧ RowsRel w.heap g.m sh.length rs' xs'.toList ∧ rs'.length = rs.length
  | [], [], _, _, rs, rs', xs, h, hp => by simp only [fillRows, Option.some.injEq] at h; subst h; exact ⟨xs, rfl, hp, rfl⟩
  | [], _ :: _, _, h, _, _, _, _, _ => by simp [okRows] at h
  | _ :: _, [], _, h, _, _, _, _, _ => by simp [okRows] at h
  | (i, y) :: ps, (k, x) :: qs, len, h, rs, rs', xs, hf, hp => by
    simp only [okRows, Bool.and_eq_true, beq_iff_eq] at h
    obtain ⟨⟨rfl, ho⟩, hok⟩ := h
    simp only [fillRows] at hf
    split at hf
    · rename_i v hv
      split at hf
      · rename_i r hr
        cases hlt : Nat.blt i rs.length with
        | false => simp [hlt] at hf
        | true =>
          simp only [hlt, cond_true] at hf
          have hlt : i < rs.length := Nat.le_of_ble_eq_true hlt
          obtain ⟨hl, hx⟩ := rel_cells (ev_rel hR ho hv) (els_cells hr)
          obtain ⟨e1, e2⟩ := els_len hr
          have hsz : (a.eval y).cells.size = sh.length := by simp at hl; omega
          have hpl' := hp.len
          simp only [Array.length_toList] at hpl'
          have hfit : i * sh.length + sh.length ≤ rs.length * sh.length := by
            have := Nat.mul_le_mul_right sh.length hlt
            rw [Nat.succ_mul] at this
            exact this
          obtain ⟨xs', h1, h2, h3⟩ := fillRows_rel hR (ps := ps) (xs := ((a.eval y).cells.toList.zipIdx 0).foldl (fun cs (p : Value × Nat) => cs.setIfInBounds (i * sh.length + p.2) p.1) xs) hok hf (by
            refine ⟨?_, fun k row hk => ?_, fun k row j u hk hj => ?_⟩
            · rw [List.length_set, ← hpl']; exact putAt_size _ _ _ _
            · rw [List.getElem?_set] at hk
              split at hk
              · first
                | (cases hk; exact e1)
                | (split at hk
                   · cases hk; exact e1
                   · cases hk)
              · exact hp.row k row hk
            · have hkl : k < rs.length := by have := lt_of_get? hk; simpa using this
              rw [List.getElem?_set] at hk
              simp only [Array.getElem?_toList, putAt_get, Nat.add_zero, Array.length_toList, hsz, hpl']
              split at hk
              · rename_i hik
                subst hik
                have hk : r = row := by simpa [hlt] using hk
                subst hk
                have hjl := lt_of_get? hj
                rw [e1] at hjl
                obtain ⟨z, s, hz, hes⟩ := els_get hr j u hj
                have hjy : j < (a.eval y).cells.size := by omega
                obtain ⟨p, q⟩ := el_rel hes (hx j z (a.eval y).cells[j] hz (by simp [hjy]))
                refine ⟨p, _, ?_, q⟩
                rw [if_pos (by omega), Nat.add_sub_cancel_left]
                simp [hjy]
              · rename_i hik
                obtain ⟨p, z, hz, q⟩ := hp.cell k row j u hk hj
                have hjl := lt_of_get? hj
                rw [hp.row k row hk] at hjl
                refine ⟨p, z, ?_, q⟩
                rw [if_neg]
                · simpa using hz
                · rintro ⟨p1, p2, _⟩
                  rcases Nat.lt_or_ge i k with h | h
                  · have := Nat.mul_le_mul_right sh.length h
                    rw [Nat.succ_mul] at this
                    omega
                  · have h : k < i := by omega
                    have := Nat.mul_le_mul_right sh.length h
                    rw [Nat.succ_mul] at this
                    omega)
          refine ⟨xs', ?_, h2, by rw [h3]; simp⟩
          simp only [List.map_cons, Instr.fill, hsz, Bool.false_or, ne_eq, not_true_eq_false, decide_false]
          rw [fold_zip]
          rw [if_neg (by simp; omega)]
          exact h1
      · cases hf
    · cases hf


theorem range_map_arr (n m : Nat) (zs : Array Value) (hz : zs.size = m) (hm : 0 < m) : ((Array.range (n * m)).map fun i => zs[i % zs.size]!).toList = (List.range (n * m)).map fun k => zs.toList.getD (k % m) default := by
  apply List.ext_getElem?
  intro j
  by_cases hj : j < n * m
  · have := Nat.mod_lt j hm
    have h2 : j % m < zs.size := by omega
    simp [hj, hz, List.getD]
    rw [getElem!_pos zs (j % m) h2]
    simp [h2]
  · simp [hj]

theorem do_lit {o : Oper} {t e : TypeId} {ie : TypeInfo} {z : Value} {tok : Option Nat} {sh : Sh} {zero : List V} {len : Nat} {ps : Array (Nat × Operand)} {qs : List (Nat × Opd)} {C : CallF} (ho : o.op = .buildSlice t len ps)
    (ht : P.underlying t = some (.slice e)) (hi : P.info? e = some ie) (hz : ie.zero = some z) (hsz : ie.size = sh.length) (hzs : z.cells.size = sh.length) (hpos : 0 < sh.length) (hlen : 0 < len) (hsmall : len * sh.length ≤ 16777216)
    (hel : okEls z.cells.toList sh zero = true) (hparts : okRows len ps.toList qs = true) (hn : ∀ f, tok = some f → S.noMen f)
    (hR : R E g S a w) (hd : ∀ d, o.dst = some d → d < E.nt) (hrun : VO.run C o.dst S (.lit tok sh zero len qs) = some S') : Does P E o S S' a w := by
  simp only [VO.run] at hrun
  split at hrun
  · rename_i rs hf
    have hzero : RowsRel w.heap g.m sh.length (List.replicate len zero) ((Array.range (len * ie.size)).map fun i => z.cells[i % z.cells.size]!).toList := by
      rw [hsz, range_map_arr len sh.length z.cells hzs hpos]
      exact rows_zero hel len
    obtain ⟨xs, h1, h2, h3⟩ := fillRows_rel hR hparts (xs := (Array.range (len * ie.size)).map fun i => z.cells[i % z.cells.size]!) hf hzero
    have h3 : rs.length = len := by simpa using h3
    have hbs := run_buildSlice (P := P) w t e len (ps.map fun (i, x) => (i, a.eval x)) xs ie z ht hi hz (by rw [hsz]; omega) (by rw [hsz]; have := Nat.mul_pos hlen hpos; omega) (by rw [Array.toList_map, hsz]; rw [hsz] at h1; exact h1)
    have hexec : (execOp a.eval o).run P w = .ok (.value (.slice (some ⟨w.heap.size, 0, none⟩) len len)) (w.alloc (.cells xs e)) := by
      simp only [execOp, ho]
      simp only [Sem.run_bind, hbs, Result.andThen_ok, Sem.run_pure]
    have hxl := h2.len
    simp only [Array.length_toList, h3] at hxl
    split at hrun
    · rename_i f
      cases hrun
      obtain ⟨g', r1, r2⟩ := hR.newTail (w' := w.alloc (.cells xs e)) (f := f) rfl rfl rfl rfl (n := sh.length) (ys := rs) (l := xs.toList) (by omega) (.inl (hn f rfl)) h2 (fun j y hj => by simpa using hj) (cap := len) (by omega) (by omega)
      rw [h3] at r1 r2
      exact .value hexec (r1.put hd r2)
    · cases hrun
      obtain ⟨g', r1, r2⟩ := hR.newImm (w' := w.alloc (.cells xs e)) rfl rfl rfl rfl (n := sh.length) (ys := rs) (l := xs.toList) h2 (fun j y hj => by simpa using hj) (cap := len) (by omega)
      rw [h3] at r2
      exact .value hexec (r1.put hd r2)
  · cases hrun

/- make -/

theorem wrap_small {n : Int} (h0 : 0 ≤ n) (h1 : n ≤ lim) : IntKind.i64.wrap n = n := by
  unfold lim at h1
  exact IntWalk.i64_in _ (by omega)

theorem run_makeSlice_of {t e : TypeId} {ie : TypeInfo} {z : Value} {k : IntKind} {n : Int} (ht : P.underlying t = some (.slice e)) (hi : P.info? e = some ie) (hz : ie.zero = some z) (hpos : 0 < ie.size) (hby : ie.bytes ≤ 32768) (h0 : 0 ≤ n) (h1 : n ≤ lim) :
    (Instr.makeSlice t (.int k n) (.int k n)).run P w = .ok (.slice (some ⟨w.heap.size, 0, none⟩) n.toNat n.toNat) (w.alloc (.cells ((Array.range (n.toNat * ie.size)).map fun i => z.cells[i % z.cells.size]!) e)) := by
  have hb : (ie.bytes : Int) * n ≤ 281474976710656 := by
    unfold lim at h1
    have a1 : (ie.bytes : Int) ≤ 32768 := by omega
    have := Int.mul_le_mul a1 h1 h0 (by decide)
    simp at this
    omega
  have hw := wrap_small h0 h1
  by_cases hn : n.toNat * ie.size = 0
  · have hn0 : n.toNat = 0 := by
      rcases Nat.mul_eq_zero.1 hn with h | h
      · exact h
      · omega
    have : n = 0 := by omega
    subst this
    simp [Instr.makeSlice, run_underlying' ht, asInt, asIntOf, typeInfo, hi, hw, sizeOf, newRow, show Array.range 0 = #[] from rfl]
  · have h3 : ¬ (n < 0) := by omega
    have h4 : ¬ (281474976710656 < (ie.bytes : Int) * n) := by omega
    simp [Instr.makeSlice, run_underlying' ht, asInt, asIntOf, typeInfo, hi, hw, sizeOf, newRow, h3, h4, hn, zeroValue, hz]

theorem flat_replicate (zero : List V) : ∀ (n k : Nat), (List.replicate n zero).flatten[k]? = if k < n * zero.length then zero[k % zero.length]? else none
  | 0, k => by simp
  | n + 1, k => by
    have e : (n + 1) * zero.length = n * zero.length + zero.length := Nat.succ_mul _ _
    rw [List.replicate_succ, List.flatten_cons, List.getElem?_append, flat_replicate zero n, e]
    generalize n * zero.length = q
    by_cases h : k < zero.length
    · rw [if_pos h, if_pos (by omega), Nat.mod_eq_of_lt h]
    · rw [if_neg h]
      by_cases h2 : k < q + zero.length
      · rw [if_pos h2, if_pos (by omega), Nat.mod_eq_sub_mod (a := k) (by omega)]
      · rw [if_neg h2, if_neg (by omega)]

theorem do_mkobj {o : Oper} {t e : TypeId} {ie : TypeInfo} {z : Value} {id : Nat} {zero : List V} {p p' : Operand} {x : Opd} {C : CallF} (ho : o.op = .makeSlice t p p')
    (ht : P.underlying t = some (.slice e)) (hi : P.info? e = some ie) (hz : ie.zero = some z) (hsz : ie.size = zero.length) (hpos : 0 < ie.size) (hby : ie.bytes ≤ 32768)
    (hz0 : okVals z.cells.toList zero = true) (hp : okOpd p x = true) (hp' : okOpd p' x = true) (hn : S.noMen id)
    (hR : R E g S a w) (hd : ∀ d, o.dst = some d → d < E.nt) (hrun : VO.run C o.dst S (.mkobj id zero x) = some S') : Does P E o S S' a w := by
  simp only [VO.run] at hrun
  split at hrun
  · rename_i k n hx
    cases hc : (decide (0 ≤ n) && decide (n ≤ (lim : Int))) with
    | false => simp [hc] at hrun
    | true =>
      simp only [hc, cond_true] at hrun
      simp only [Bool.and_eq_true, decide_eq_true_eq] at hc
      cases hrun
      have e1 := rel_int (ev_rel hR hp hx)
      have e1' := rel_int (ev_rel hR hp' hx)
      obtain ⟨hl, hv⟩ := okVals_rel (X := S.cx g w) hz0
      have hzs : z.cells.size = ie.size := by rw [hsz]; simpa using hl.symm
      have hm := run_makeSlice_of (P := P) (w := w) (k := k) ht hi hz hpos hby hc.1 hc.2
      obtain ⟨g', r1, r2, r3⟩ := hR.newObj (cpn := n.toNat * zero.length) (hcpn := by simp [hsz]) (w' := w.alloc (.cells ((Array.range (n.toNat * ie.size)).map fun i => z.cells[i % z.cells.size]!) e)) hn rfl rfl rfl rfl (cs := (List.replicate n.toNat zero).flatten) (fun j v hj => by
        rw [flat_replicate] at hj
        split at hj
        · rename_i hlt
          have hj2 : j % zero.length < z.cells.size := by rw [hzs, hsz]; exact Nat.mod_lt _ (by omega)
          obtain ⟨q1, q2, q3⟩ := hv (j % zero.length) v z.cells[j % zero.length] hj (by simp [hj2])
          refine ⟨q1, q2 _, z.cells[j % zero.length], ?_, q3⟩
          simp [hzs, hsz, hlt]
          rw [getElem!_pos z.cells (j % zero.length) hj2]
        · cases hj)
      refine Does.value (x := .slice (some ⟨w.heap.size, 0, none⟩) n.toNat n.toNat) (g' := g') (w' := w.alloc (.cells ((Array.range (n.toNat * ie.size)).map fun i => z.cells[i % z.cells.size]!) e)) ?_ (r1.put hd ?_)
      · simp only [execOp, ho, e1, e1']
        simp only [Sem.run_bind, hm, Result.andThen_ok, Sem.run_pure]
      · rw [← r2]; exact .lref id _ _ _ (Nat.le_refl _) r3.symm
  · cases hrun


/-- 'make', of a constant length, where nobody writes. -/
theorem do_litmk {o : Oper} {t e : TypeId} {ie : TypeInfo} {z : Value} {sh : Sh} {zero : List V} {len : Nat} {p p' : Operand} {C : CallF} (ho : o.op = .makeSlice t p p')
    (ht : P.underlying t = some (.slice e)) (hi : P.info? e = some ie) (hz : ie.zero = some z) (hsz : ie.size = sh.length) (hzs : z.cells.size = sh.length) (hby : ie.bytes ≤ 32768) (hpos : 0 < sh.length) (hsmall : len ≤ 65536)
    (hel : okEls z.cells.toList sh zero = true) (hp : okOpd p (.c (.int .i64 len)) = true) (hp' : okOpd p' (.c (.int .i64 len)) = true)
    (hR : R E g S a w) (hd : ∀ d, o.dst = some d → d < E.nt) (hrun : VO.run C o.dst S (.lit none sh zero len []) = some S') : Does P E o S S' a w := by
  simp only [VO.run, fillRows] at hrun
  cases hrun
  have hzero : RowsRel w.heap g.m sh.length (List.replicate len zero) ((Array.range (len * ie.size)).map fun i => z.cells[i % z.cells.size]!).toList := by
    rw [hsz, range_map_arr len sh.length z.cells hzs hpos]
    exact rows_zero hel len
  have e1 := rel_int (ev_rel hR hp rfl)
  have e1' := rel_int (ev_rel hR hp' rfl)
  have hm := run_makeSlice_of (P := P) (w := w) (k := .i64) (n := (len : Int)) ht hi hz (by omega) hby (by omega) (by unfold lim; omega)
  simp only [Int.toNat_natCast] at hm
  obtain ⟨g', r1, r2⟩ := hR.newImm (w' := w.alloc (.cells ((Array.range (len * ie.size)).map fun i => z.cells[i % z.cells.size]!) e)) rfl rfl rfl rfl (n := sh.length) (ys := List.replicate len zero) (l := ((Array.range (len * ie.size)).map fun i => z.cells[i % z.cells.size]!).toList) hzero (fun j y hj => by rw [← Array.getElem?_toList]; exact hj) (cap := len) (by simp)
  rw [List.length_replicate] at r2
  refine Does.value (x := .slice (some ⟨w.heap.size, 0, none⟩) len len) (g' := g') (w' := w.alloc (.cells ((Array.range (len * ie.size)).map fun i => z.cells[i % z.cells.size]!) e)) ?_ (r1.put hd r2)
  simp only [execOp, ho, e1, e1']
  simp only [Sem.run_bind, hm, Result.andThen_ok, Sem.run_pure]


/- stores -/

theorem run_storeVar_of {t : TypeId} {n : Nat} (hs : sizeIn P t = some n) {b o : Nat} {v : Value} (hv : v.cells.size = n) {c : Array Value} {e : TypeId} (hb : w.heap[b]? = some (.cells c e (0, 0))) (hfit : o + n ≤ c.size)
    (h1 : ∀ y ∈ v.cells.toList, y.oneCell' = true) : (storeVar t ⟨b, o, none⟩ v).run P w = .ok () (w.setRow b (c.toList.take o ++ v.cells.toList ++ c.toList.drop (o + n)).toArray) := by
  have hst := run_storeCells_at P b o e v.cells.toList 0 c w hb (by simp; omega) h1
  simp only [Nat.add_zero, Array.length_toList, hv] at hst
  simp [storeVar, run_sizeOf' hs, hv, hst]

theorem splice_get {c : Array Value} {l : List Value} {o : Nat} (hfit : o + l.length ≤ c.size) (k : Nat) : (c.toList.take o ++ l ++ c.toList.drop (o + l.length)).toArray[k]? = if o ≤ k ∧ k < o + l.length then l[k - o]? else c[k]? := by
  simp only [List.getElem?_toArray, List.append_assoc]
  by_cases h : k < o
  · rw [List.getElem?_append_left (by simp; omega), if_neg (by omega)]
    simp [h]
  · rw [List.getElem?_append_right (by simp; omega)]
    have e : (c.toList.take o).length = o := by simp; omega
    rw [e]
    by_cases h2 : k - o < l.length
    · rw [List.getElem?_append_left h2, if_pos (by omega)]
    · rw [List.getElem?_append_right (by omega), if_neg (by omega), List.getElem?_drop]
      simp
      congr 1
      omega

theorem splice_size {c : Array Value} {l : List Value} {o : Nat} (hfit : o + l.length ≤ c.size) : (c.toList.take o ++ l ++ c.toList.drop (o + l.length)).toArray.size = c.size := by
  simp; omega

theorem heap_setRow_ne (w : World) (b i : Nat) (c : Array Value) (h : i ≠ b) : (w.setRow b c).heap[i]? = w.heap[i]? := by
  simp only [World.setRow, Array.getElem?_modify]
  rw [if_neg (by omega)]

/-- A block that is an object's own is written. -/
theorem touch_row {b : Nat} {c' : Array Value} (hm : g.m b = 0) (hfresh : E.w0.heap.size ≤ b ∨ ∃ i, i < E.N0 ∧ E.g0.γ i = b) :
    Touch E g S w g S.toks S.glob.length (w.setRow b c') b none none where
  os := rfl
  tape := rfl
  output := rfl
  size := by simp
  heap := fun i hi _ => heap_setRow_ne w b i c' hi
  m := fun _ _ => rfl
  ow := fun _ _ => rfl
  κ := fun _ _ => rfl
  cp := fun _ _ => rfl
  τ := fun _ _ => rfl
  T := fun _ _ => rfl
  γ := fun _ _ => rfl
  nle := Nat.le_refl _
  γnew := fun i a b => absurd a (by omega)
  fresh := hfresh
  imm := fun o y ho _ => absurd ho (by omega)
  mle := fun _ => Nat.le_refl _

theorem do_storeL {o : Oper} {t : TypeId} {sh : Sh} {p q : Operand} {x y : Opd} {id off : Nat} {cs : List V} {v : V} (ho : o.op = .store t p q) (hdst : o.dst = none) (hs : sizeIn P t = some sh.length) (hp : okOpd p x = true) (hq : okOpd q y = true)
    (hR : R E g S a w) (hx : S.ev x = some (.lptr id off)) (hy : S.ev y = some v) (hob : look id S.objs = some cs) (hl : v.cells.length = sh.length) (hle : off + sh.length ≤ cs.length) (hcell : ∀ u ∈ v.cells, u.isCell = true) :
    Does P E o S { S with objs := (id, setAll cs off v.cells) :: S.objs } a w := by
  obtain ⟨how, hbase, hm, c, e, hh, hcp, hj⟩ := hR.objs id cs hob
  obtain ⟨hpl, hpx⟩ := rel_cells (ev_rel hR hq hy) hcell
  have hsz : (a.eval q).cells.size = sh.length := by simp at hpl; omega
  have hc : cs.length ≤ c.size := by
    rcases Nat.lt_or_ge c.size cs.length with h | h
    · obtain ⟨_, y, hy, _⟩ := hj c.size cs[c.size] (List.getElem?_eq_getElem h)
      simp at hy
    · exact h
  have h1 : ∀ y ∈ (a.eval q).cells.toList, y.oneCell' = true := fun y hy => by
    obtain ⟨k, hk⟩ := List.mem_iff_getElem?.1 hy
    have hkl := lt_of_get? hk
    have hkv : k < v.cells.length := by omega
    exact rel_oneCell (hpx k v.cells[k] y (List.getElem?_eq_getElem hkv) hk) (hcell _ (List.getElem_mem hkv))
  have hfit : off + (a.eval q).cells.toList.length ≤ c.size := by simp; omega
  have hrun := run_storeVar_of (P := P) (w := w) hs (v := a.eval q) hsz hh (o := off) (by omega) h1
  have hlen : (a.eval q).cells.toList.length = sh.length := by simpa using hsz
  rw [← hlen] at hrun
  let c' : Array Value := (c.toList.take off ++ (a.eval q).cells.toList ++ c.toList.drop (off + (a.eval q).cells.toList.length)).toArray
  have hnew : (w.setRow (g.κ id) c').heap[g.κ id]? = some (.cells c' e (0, 0)) := setRow_heap w _ c c' e _ hh
  have tt := touch_row (c' := c') (S := S) (w := w) hm (.inl hbase)
  have hk : ∀ i, Keeps (S.cx g w) ⟨(w.setRow (g.κ id) c').heap, g, S.glob.length, S.toks⟩ i := fun i => tt.keeps hR (fun e => by cases e) (fun e => by cases e) (fun _ e => by rw [how] at e; cases e)
  refine Does.skip (g' := g) (w' := w.setRow (g.κ id) c') ?_ hdst (R.touched tt hR rfl rfl (fun i => .inl (hk i)) (fun s v hs => .inl hs) (fun i cs' hi => ?_) (fun f k b hf hb => .inl ⟨(fun e => by cases e), fun _ e => by rw [how] at e; cases e⟩)
    (fun i o hi => .inl ⟨hi, fun _ e => by rw [how] at e; cases e⟩))
  · simp only [execOp, ho, rel_lptr (ev_rel hR hp hx)]
    have hrun' : (storeVar t ⟨(S.cx g w).g.κ id, off, none⟩ (a.eval q)).run P w = .ok () (w.setRow (g.κ id) c') := hrun
    simp [Instr.storeAt, Instr.sureAddr, hrun']
  · rw [look_cons] at hi
    by_cases hii : id = i
    · subst hii
      rw [if_pos rfl] at hi
      cases hi
      refine .inr ⟨how, hbase, hm, c', e, hnew, (by rw [splice_size (by omega)]; exact hcp), fun j u hu => ?_⟩
      rw [setAll_get] at hu
      show _ ∧ ∃ y, c'[j]? = some y ∧ _
      rw [show c'[j]? = _ from splice_get hfit j]
      split at hu
      · rename_i hin
        rw [if_pos (by omega)]
        have hjv := lt_of_get? hu
        have hjl : j - off < (a.eval q).cells.toList.length := by omega
        exact ⟨hcell u (List.mem_of_getElem? hu), _, List.getElem?_eq_getElem hjl, (hpx (j - off) u _ hu (List.getElem?_eq_getElem hjl)).mono tt.le (fun i => .inl (hk i))⟩
      · rename_i hin
        have hjc := lt_of_get? hu
        rw [if_neg (by omega)]
        obtain ⟨q1, z, q2, q3⟩ := hj j u hu
        exact ⟨q1, z, q2, q3.mono tt.le (fun i => .inl (hk i))⟩
    · rw [if_neg hii] at hi
      exact .inl ⟨hi, (fun e => by cases e), fun _ e => hii (by rw [how] at e; cases e; rfl)⟩

theorem gel_rel {X : Cx} {sh : Option Nat} {v u : V} {y : Value} (h : gel sh v = some u) (hr : XRel X v y) : u.isCell = true ∧ (∀ d, u.men d = false) ∧ XRel ⟨X.h, X.g, X.N, []⟩ u y ∧ v.isCell = true := by
  have hel : ∀ {v u}, el sh v = some u → XRel X v y → u.isCell = true ∧ (∀ d, u.men d = false) ∧ XRel ⟨X.h, X.g, X.N, []⟩ u y ∧ v.isCell = true := fun {v u} h hr => by
    obtain ⟨p, q⟩ := el_rel h hr
    refine ⟨by cases u <;> simp_all [V.plain, V.isCell], fun d => ?_, .plain q (plain_tok p), ?_⟩
    · cases u <;> simp_all [V.plain, V.men, V.men1, V.men0]
      rename_i tok _ _
      cases tok <;> simp_all [V.men0]
    · unfold el at h
      split at h <;> first | rfl | cases h
  unfold gel at h
  split at h
  · cases h; obtain ⟨e, hi⟩ := rel_gptr hr; rw [e]; exact ⟨rfl, fun _ => rfl, .gptr _ _ hi, rfl⟩
  · cases h; cases hr with
    | plain h _ => cases h
    | nilptr => exact ⟨rfl, fun _ => rfl, .nilptr, rfl⟩
  · cases h; cases hr with
    | plain h _ => cases h
    | fn _ _ xs hl hx => exact ⟨rfl, fun _ => rfl, .fn _ _ xs hl hx, rfl⟩
  · cases h; cases hr with
    | plain h _ => cases h
    | nilfn => exact ⟨rfl, fun _ => rfl, .nilfn, rfl⟩
  · cases h; cases hr with
    | plain h _ => cases h
    | map _ hi => exact ⟨rfl, fun _ => rfl, .map _ hi, rfl⟩
  · cases h; cases hr with
    | plain h _ => cases h
    | nilmap => exact ⟨rfl, fun _ => rfl, .nilmap, rfl⟩
  · exact hel h hr

theorem gels_len : ∀ {sh : Sh} {vs us : List V}, gels sh vs = some us → us.length = sh.length ∧ vs.length = sh.length
  | [], [], us, h => by simp [gels] at h; subst h; simp
  | [], _ :: _, _, h => by simp [gels] at h
  | _ :: _, [], _, h => by simp [gels] at h
  | s :: sh, v :: vs, us, h => by
    simp only [gels] at h
    split at h
    · rename_i u us' h1 h2
      cases h
      obtain ⟨a, b⟩ := gels_len h2
      simp [a, b]
    · cases h

theorem gels_get : ∀ {sh : Sh} {vs us : List V}, gels sh vs = some us → ∀ (j : Nat) (u : V), us[j]? = some u → ∃ v s, vs[j]? = some v ∧ gel s v = some u
  | [], [], us, h, j, u, hu => by simp [gels] at h; subst h; simp at hu
  | [], _ :: _, _, h, _, _, _ => by simp [gels] at h
  | _ :: _, [], _, h, _, _, _ => by simp [gels] at h
  | s :: sh, v :: vs, us, h, j, u, hu => by
    simp only [gels] at h
    split at h
    · rename_i u' us' h1 h2
      cases h
      cases j with
      | zero => simp at hu; subst hu; exact ⟨v, s, by simp, h1⟩
      | succ j => obtain ⟨z, t, p, q⟩ := gels_get h2 j u (by simpa using hu); exact ⟨z, t, by simpa using p, q⟩
    · cases h

theorem gel_cell {s : Option Nat} {v u : V} (h : gel s v = some u) : v.isCell = true := by
  unfold gel at h
  split at h
  all_goals first | rfl | skip
  unfold el at h
  split at h <;> first | rfl | cases h

theorem gels_cell {sh : Sh} {vs us : List V} (h : gels sh vs = some us) : ∀ v ∈ vs, v.isCell = true := fun v hv => by
  obtain ⟨j, hj⟩ := List.mem_iff_getElem?.1 hv
  obtain ⟨e1, e2⟩ := gels_len h
  have := lt_of_get? hj
  obtain ⟨z, s, hz, hg⟩ := gels_get h j us[j] (List.getElem?_eq_getElem (by omega))
  rw [hj] at hz
  cases hz
  exact gel_cell hg


theorem do_storeG {o : Oper} {t : TypeId} {sh : Sh} {p q : Operand} {x y : Opd} {i off : Nat} {cs vs : List V} {v : V} (ho : o.op = .store t p q) (hdst : o.dst = none) (hs : sizeIn P t = some sh.length) (hp : okOpd p x = true) (hq : okOpd q y = true)
    (hR : R E g S a w) (hx : S.ev x = some (.gptr i off)) (hy : S.ev y = some v) (hob : S.glob[i]? = some (.cells cs)) (hg : gels sh v.cells = some vs) (hle : off + vs.length ≤ cs.length) :
    Does P E o S { S with glob := S.glob.set i (.cells (setAll cs off vs)) } a w := by
  obtain ⟨how, hm, c, e, hh, hcl, hj⟩ := hR.glob i _ hob
  have hi := lt_of_get? hob
  obtain ⟨e1, e2⟩ := gels_len hg
  have hcell := gels_cell hg
  obtain ⟨hpl, hpx⟩ := rel_cells (ev_rel hR hq hy) hcell
  have hsz : (a.eval q).cells.size = sh.length := by simp at hpl; omega
  have h1 : ∀ y ∈ (a.eval q).cells.toList, y.oneCell' = true := fun y hy => by
    obtain ⟨k, hk⟩ := List.mem_iff_getElem?.1 hy
    have hkl := lt_of_get? hk
    have hkv : k < v.cells.length := by omega
    exact rel_oneCell (hpx k v.cells[k] y (List.getElem?_eq_getElem hkv) hk) (hcell _ (List.getElem_mem hkv))
  have hlen : (a.eval q).cells.toList.length = sh.length := by simpa using hsz
  have hfit : off + (a.eval q).cells.toList.length ≤ c.size := by omega
  have hrun := run_storeVar_of (P := P) (w := w) hs (v := a.eval q) hsz hh (o := off) (by omega) h1
  rw [← hlen] at hrun
  let c' : Array Value := (c.toList.take off ++ (a.eval q).cells.toList ++ c.toList.drop (off + (a.eval q).cells.toList.length)).toArray
  have hnew : (w.setRow (g.γ i) c').heap[g.γ i]? = some (.cells c' e (0, 0)) := setRow_heap w _ c c' e _ hh
  have hfresh : E.w0.heap.size ≤ g.γ i ∨ ∃ k, k < E.N0 ∧ E.g0.γ k = g.γ i := by
    by_cases h : i < E.N0
    · exact .inr ⟨i, h, (hR.same.γ i h).symm⟩
    · exact .inl (hR.same.γnew i (by omega) hi)
  have tt := touch_row (c' := c') (S := S) (w := w) hm hfresh
  have hk : ∀ k, Keeps (S.cx g w) ⟨(w.setRow (g.γ i) c').heap, g, S.glob.length, S.toks⟩ k := fun k => tt.keeps hR (fun e => by cases e) (fun e => by cases e) (fun _ e => by rw [how] at e; cases e)
  have le0 : Le ⟨w.heap, g, S.glob.length, []⟩ ⟨(w.setRow (g.γ i) c').heap, g, S.glob.length, []⟩ := ⟨tt.le.size, tt.le.cells, tt.le.m, tt.le.nle, tt.le.γ⟩
  refine Does.skip (g' := g) (w' := w.setRow (g.γ i) c') ?_ hdst (R.touched tt hR rfl (by simp) (fun i => .inl (hk i)) (fun s v hs => .inl hs) (fun id cs' hi => .inl ⟨hi, (fun e => by cases e), fun _ e => by rw [how] at e; cases e⟩)
    (fun f k b hf hb => .inl ⟨(fun e => by cases e), fun _ e => by rw [how] at e; cases e⟩) (fun k o hko => ?_))
  · obtain ⟨ep, _⟩ := rel_gptr (ev_rel hR hp hx)
    have hrun' : (storeVar t ⟨(S.cx g w).g.γ i, off, none⟩ (a.eval q)).run P w = .ok () (w.setRow (g.γ i) c') := hrun
    simp only [execOp, ho, ep]
    simp [Instr.storeAt, Instr.sureAddr, hrun']
  · simp only [List.getElem?_set] at hko
    by_cases hik : i = k
    · subst hik
      simp [hi] at hko
      subst hko
      refine .inr ⟨how, hm, c', e, hnew, by rw [setAll_len, hcl]; exact (splice_size hfit).symm, fun j u z hu hz => ?_⟩
      rw [setAll_get] at hu
      rw [show c'[j]? = _ from splice_get hfit j] at hz
      split at hu
      · rename_i hin
        rw [if_pos (by omega)] at hz
        obtain ⟨u0, s, hu0, hgs⟩ := gels_get hg _ u hu
        obtain ⟨q1, q2, q3, _⟩ := gel_rel hgs (hpx (j - off) u0 z hu0 hz)
        exact ⟨q1, q2, q3.mono le0 (fun d => .inr (q2 d))⟩
      · rename_i hin
        have hjc := lt_of_get? hu
        rw [if_neg (by omega)] at hz
        obtain ⟨q1, q2, q3⟩ := hj j u z hu hz
        exact ⟨q1, q2, q3.mono le0 (fun d => .inr (q2 d))⟩
    · rw [if_neg hik] at hko
      exact .inl ⟨hko, fun _ e => hik (by rw [how] at e; cases e; rfl)⟩

theorem do_store {o : Oper} {t : TypeId} {root : Root} {sh : Sh} {p q : Operand} {x y : Opd} {C : CallF} (ho : o.op = .store t p q) (hdst : o.dst = none) (hs : sizeIn P t = some sh.length) (hp : okOpd p x = true) (hq : okOpd q y = true)
    (hR : R E g S a w) (hrun : VO.run C o.dst S (.store root sh x y) = some S') : Does P E o S S' a w := by
  simp only [VO.run] at hrun
  cases hfit : S.fits root x with
  | false => simp [hfit] at hrun
  | true =>
    simp only [hfit, cond_true] at hrun
    split at hrun
    · rename_i id off v hx hy
      split at hrun
      · rename_i cs hob
        cases hc : (v.cells.length == sh.length && Nat.ble (off + sh.length) cs.length && v.cells.all V.isCell) with
        | false => simp [hc] at hrun
        | true =>
          simp only [hc, cond_true] at hrun
          simp only [Bool.and_eq_true, beq_iff_eq, List.all_eq_true] at hc
          cases hrun
          exact do_storeL ho hdst hs hp hq hR hx hy hob hc.1.1 (Nat.le_of_ble_eq_true hc.1.2) hc.2
      · cases hrun
    · rename_i i off v hx hy
      split at hrun
      · rename_i cs hob
        split at hrun
        · rename_i vs hg
          cases hc : Nat.ble (off + vs.length) cs.length with
          | false => simp [hc] at hrun
          | true =>
            simp only [hc, cond_true] at hrun
            cases hrun
            exact do_storeG ho hdst hs hp hq hR hx hy hob hg (Nat.le_of_ble_eq_true hc)
        · cases hrun
      · cases hrun
    · cases hrun

theorem do_gbox {o : Oper} {t : TypeId} {sh : Sh} {p : Operand} {x : Opd} {C : CallF} (ho : o.op = .box t p) (hp : okOpd p x = true)
    (hR : R E g S a w) (hd : ∀ d, o.dst = some d → d < E.nt) (hrun : VO.run C o.dst S (.gbox sh x) = some S') : Does P E o S S' a w := by
  simp only [VO.run] at hrun
  split at hrun
  · rename_i v hv
    split at hrun
    · rename_i cs hg
      cases hrun
      obtain ⟨e1, e2⟩ := gels_len hg
      obtain ⟨hl, hx⟩ := rel_cells (ev_rel hR hp hv) (gels_cell hg)
      let c : Array Value := (a.eval p).cells
      let g' : Gh := { g with m := upd g.m w.heap.size 0, γ := upd g.γ S.glob.length w.heap.size, ow := upd g.ow w.heap.size (.glob S.glob.length) }
      have hw : (w.alloc (.cells c t)).heap = w.heap.push (.cells c t (0, 0)) := rfl
      have t' : Touch E g S w g' S.toks (S.glob.length + 1) (w.alloc (.cells c t)) w.heap.size none none := touch_new hR hw rfl rfl rfl (fun b hb => upd_ne _ _ hb) (fun b hb => upd_ne _ _ hb)
        (fun i _ => rfl) (fun i _ => rfl) (fun i _ => rfl) (fun i _ => rfl) (fun i hi => upd_ne _ _ (by omega)) (by omega) (fun i h1 h2 => by
          have : i = S.glob.length := by omega
          subst this
          show _ ≤ upd g.γ _ _ _
          rw [upd_same]; exact hR.same.size)
      have hkeep : ∀ i, Keeps (S.cx g w) ⟨(w.alloc (.cells c t)).heap, g', S.glob.length + 1, S.toks⟩ i := fun i => t'.keeps hR (fun e => by cases e) (fun e => by cases e) (fun h => absurd h (Nat.lt_irrefl _))
      have le0 : Le ⟨w.heap, g, S.glob.length, []⟩ ⟨(w.alloc (.cells c t)).heap, g', S.glob.length + 1, []⟩ := ⟨t'.le.size, t'.le.cells, t'.le.m, t'.le.nle, t'.le.γ⟩
      have hγ : g'.γ S.glob.length = w.heap.size := upd_same _ _ _
      have r1 : R E g' { S with glob := S.glob ++ [.cells cs] } a (w.alloc (.cells c t)) := R.touched t' hR rfl (by simp) (fun i => .inl (hkeep i)) (fun s v hs => .inl hs)
        (fun id cs' hi => .inl ⟨hi, (fun e => by cases e), fun h => absurd h (Nat.lt_irrefl _)⟩) (fun f k b hf hb => .inl ⟨(fun e => by cases e), fun h => absurd h (Nat.lt_irrefl _)⟩) (fun k o hko => by
          simp only [List.getElem?_append] at hko
          split at hko
          · exact .inl ⟨hko, fun h => absurd h (Nat.lt_irrefl _)⟩
          · rename_i hk
            have : k = S.glob.length := by
              rcases Nat.eq_zero_or_pos (k - S.glob.length) with h | h
              · omega
              · rw [List.getElem?_eq_none (by simp; omega)] at hko; cases hko
            subst this
            simp at hko
            subst hko
            refine .inr ⟨by rw [hγ]; exact upd_same _ _ _, by rw [hγ]; exact upd_same _ _ _, c, t, by rw [hγ]; exact new_heap hw, by (have : v.cells.length = (a.eval p).cells.size := by simpa using hl); show cs.length = (a.eval p).cells.size; omega, fun j u z hu hz => ?_⟩
            obtain ⟨u0, s, hu0, hgs⟩ := gels_get hg _ u hu
            obtain ⟨q1, q2, q3, _⟩ := gel_rel hgs (hx j u0 z hu0 (by simpa using hz))
            exact ⟨q1, q2, q3.mono le0 (fun d => .inr (q2 d))⟩)
      refine Does.value (x := .pointer (some ⟨w.heap.size, 0, none⟩)) (w' := w.alloc (.cells c t)) (g' := g') ?_ (r1.put hd ?_)
      · simp [execOp, ho, Instr.box, newVar, newRow, c]
      · rw [← hγ]; exact .gptr _ 0 (by simp [St.cx])
    · cases hrun
  · cases hrun

theorem do_slc {o : Oper} {t e : TypeId} {sz : Nat} {p : Operand} {lo hi : Option Operand} {x : Opd} {lo' hi' : Option Opd} {C : CallF} (ho : o.op = .slice t p lo hi none) (ht : P.underlying t = some (.slice e)) (hs : sizeIn P e = some sz)
    (hp : okOpd p x = true) (hlo : match lo, lo' with | none, none => True | some y, some z => okOpd y z = true | _, _ => False) (hhi : match hi, hi' with | none, none => True | some y, some z => okOpd y z = true | _, _ => False)
    (hR : R E g S a w) (hd : ∀ d, o.dst = some d → d < E.nt) (hrun : VO.run C o.dst S (.slc sz x lo' hi') = some S') : Does P E o S S' a w := by
  simp only [VO.run] at hrun
  split at hrun
  · rename_i tk m es hx
    split at hrun
    · rename_i k1 l k2 h hl hh
      cases hc : (decide (0 ≤ l) && decide (l ≤ h) && decide (h ≤ (es.length : Int)) && (m == sz)) with
      | false => simp [hc] at hrun
      | true =>
        simp only [hc, cond_true] at hrun
        cases hrun
        simp only [Bool.and_eq_true, decide_eq_true_eq, beq_iff_eq] at hc
        obtain ⟨⟨⟨h0, h1⟩, h2⟩, rfl⟩ := hc
        have hr := ev_rel hR hp hx
        obtain ⟨base, cap, e1, hcap⟩ : ∃ base cap, a.eval p = .slice base es.length cap ∧ es.length ≤ cap := by
          generalize a.eval p = y at hr
          cases hr with
          | plain h _ => cases h with
            | nil => exact ⟨none, 0, rfl, by simp⟩
            | empty _ _ a cap => exact ⟨some a, cap, rfl, by simp⟩
            | slice _ _ _ b off cap ys hb hcap => exact ⟨_, cap, rfl, hcap⟩
        have blo : (match lo.map a.eval with | some v => Instr.sliceBound v h.toNat .sliceB | none => pure 0).run P w = .ok l.toNat w := by
          cases lo with
          | none =>
            cases lo' with
            | none => simp [St.evOr] at hl; obtain ⟨_, rfl⟩ := hl; simp
            | some z => exact hlo.elim
          | some y =>
            cases lo' with
            | none => exact hlo.elim
            | some z =>
              have := rel_int (ev_rel hR hlo hl)
              simp only [Option.map_some, this]
              exact run_sliceBound w k1 l h.toNat .sliceB h0 (by omega)
        have bhi : (match hi.map a.eval with | some v => Instr.sliceBound v cap .sliceAcap | none => pure es.length).run P w = .ok h.toNat w := by
          cases hi with
          | none =>
            cases hi' with
            | none => simp [St.evOr] at hh; obtain ⟨_, rfl⟩ := hh; simp
            | some z => exact hhi.elim
          | some y =>
            cases hi' with
            | none => exact hhi.elim
            | some z =>
              have := rel_int (ev_rel hR hhi hh)
              simp only [Option.map_some, this]
              exact run_sliceBound w k2 h cap .sliceAcap (by omega) (by omega)
        have hbounds : (Instr.sliceBounds true es.length cap (lo.map a.eval) (hi.map a.eval) none).run P w = .ok (l.toNat, h.toNat, cap) w := by
          unfold Instr.sliceBounds
          cases hi with
          | none =>
            simp only [Option.map_none] at bhi
            simp only [Sem.run_pure, Result.ok.injEq, and_true] at bhi
            cases lo with
            | none =>
              simp only [Option.map_none, Sem.run_pure, Result.ok.injEq, and_true] at blo
              simp [← bhi, ← blo]
            | some y =>
              simp only [Option.map_some] at blo
              simp [bhi, blo]
          | some z =>
            simp only [Option.map_some] at bhi
            cases lo with
            | none =>
              simp only [Option.map_none, Sem.run_pure, Result.ok.injEq, and_true] at blo
              simp [bhi, ← blo]
            | some y =>
              simp only [Option.map_some] at blo
              simp [bhi, blo]
        have hexec : (execOp a.eval o).run P w = .ok (.value (.slice (if cap = l.toNat then base else base.map (·.add (l.toNat * m))) (h.toNat - l.toNat) (cap - l.toNat))) w := by
          simp only [execOp, ho, e1, Instr.sliceAt, Instr.slice]
          simp [run_underlying' ht, hbounds, run_sizeOf' hs]
        have hlen : ((es.take h.toNat).drop l.toNat).length = h.toNat - l.toNat := by simp; omega
        refine Does.put hR hd hexec ?_
        clear blo bhi hbounds hexec
        generalize a.eval p = y at hr e1
        subst e1
        refine .plain ?_ (fun _ _ _ e => by cases e)
        cases hr with
        | plain hv _ =>
          cases hv with
          | nil =>
            have hl0 : l.toNat = 0 := by simp at h2; omega
            have hh0 : h.toNat = 0 := by simp at h2; omega
            simp [hl0, hh0]
            exact .nil _ _
          | empty _ _ a' cap' =>
            have hl0 : l.toNat = 0 := by simp at h2; omega
            have hh0 : h.toNat = 0 := by simp at h2; omega
            simp only [hl0, hh0, Nat.sub_zero, List.take_zero, List.drop_zero]
            split
            · exact .empty _ _ _ _
            · exact .empty _ _ _ _
          | slice _ _ _ b off _ ys hb hc2 hrow hc hv hp hm =>
            rw [← hlen]
            by_cases hcl : cap = l.toNat
            · rw [if_pos hcl]
              have h3 : (es.take h.toNat).drop l.toNat = [] := List.length_eq_zero_iff.1 (by rw [hlen]; omega)
              rw [h3]
              exact .slice none m [] b off _ ys hb (by simp) (by simp) (by simp) (by simp) (by simp) (by simp; omega)
            · rw [if_neg hcl]
              simp only [Option.map_some, addr_add]
              have hget : ∀ (i : Nat) (row : List V), ((es.take h.toNat).drop l.toNat)[i]? = some row → es[l.toNat + i]? = some row := fun i row hi => by
                rw [List.getElem?_drop, List.getElem?_take] at hi
                split at hi
                · exact hi
                · cases hi
              refine .slice none m _ b (off + l.toNat * m) _ (fun i j => ys (l.toNat + i) j) hb (by rw [hlen]; omega) (fun i row hi => hrow _ row (hget i row hi)) (fun i row j v hi hj => ?_) (fun i row j v hi hj => hv _ row j v (hget i row hi) hj)
                (fun i row j v hi hj => hp _ row j v (hget i row hi) hj) ?_
              · rw [← hc _ row j v (hget i row hi) hj]
                congr 1
                rw [Nat.add_mul]; omega
              · have : (l.toNat + (h.toNat - l.toNat)) * m ≤ es.length * m := Nat.mul_le_mul_right m (by omega)
                rw [Nat.add_mul] at this
                rw [hlen]
                omega
    · cases hrun
  · cases hrun

end
end Go.Vm
