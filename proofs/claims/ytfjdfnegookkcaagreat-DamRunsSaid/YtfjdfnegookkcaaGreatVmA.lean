/- The value machine, 10: what an operation may be, and that each does in the model what it does here. -/
import Derived.Test.YtfjdfnegookkcaaGreatVmO
import Derived.Test.YtfjdfnegookkcaaGreatVmS
namespace Go.Vm
set_option linter.all false
def VO.names:VO → List Nat
 | .obj id _ | .box id _ | .mkobj id _ _ => [id]
 | .lit (some f) _ _ _ _ => [f]
 | .app f _ _ _ _ _ => [f]
 | .appo f _ _ _ _ => [f]
 | .gtake f _ => [f]
 | .call _ _ _ reg => regsOf reg
 | .own _ _ id _ => [id]
 | _ => []
def okArgs:List Operand → List (Sh × Opd) → Bool
 | [],[] => true
 | y :: ys,(_,x) :: xs => okOpd y x && okArgs ys xs
 | _,_ => false
def okArgs3:List Operand → List (Sh × Sh × Opd) → Bool
 | [],[] => true
 | y :: ys,(_,_,x) :: xs => okOpd y x && okArgs3 ys xs
 | _,_ => false
theorem okArgs3_spec:∀ {ys:List Operand} {xs:List (Sh × Sh × Opd)},okArgs3 ys xs = true → xs.length = ys.length ∧ ∀ (i:Nat) rs sh x y,xs[i]? = some (rs,sh,x) → ys[i]? = some y → okOpd y x = true
 | [],[],_ => by simp
 | [],_ :: _,h => by simp [okArgs3] at h
 | _ :: _,[],h => by simp [okArgs3] at h
 | y :: ys,(rs,sh,x) :: xs,h => by
   simp only [okArgs3,Bool.and_eq_true] at h
   obtain ⟨p,q⟩:=okArgs3_spec h.2
   refine ⟨by simp [p],fun i rs' sh' x' y' hx hy => ?_⟩
   cases i with
   | zero => simp at hx hy;obtain ⟨_,_,rfl⟩:=hx;subst hy;exact h.1
   | succ i => exact q i rs' sh' x' y' (by simpa using hx) (by simpa using hy)
def okOpds:List Operand → List Opd → Bool
 | [],[] => true
 | y :: ys,x :: xs => okOpd y x && okOpds ys xs
 | _,_ => false
def okOpt:Option Operand → Option Opd → Bool
 | none,none => true
 | some y,some x => okOpd y x
 | _,_ => false
def okZero (P:Program) (t:TypeId) (cells:List V):Bool :=
 match (P.info? t).bind (·.zero) with
 | some z => okVals z.cells.toList cells
 | none => false
def okElem (P:Program) (t:TypeId) (n:Nat):Bool :=
 match P.underlying t with
 | some (.slice e) => match P.info? e with
   | some i => match i.zero with
     | some z => i.size == n && z.cells.size == n && Nat.ble i.bytes 32768 && Nat.blt 0 n
     | none => false
   | none => false
 | _ => false
def okMax (P:Program) (t:TypeId) (mx:Nat):Bool :=
 match P.underlying t with
 | some (.slice e) => match P.info? e with
   | some i => Nat.ble mx 140737488355328 && Nat.ble (mx * i.bytes) 140737488355328
   | none => false
 | _ => false
def okKey (P:Program) (t:TypeId) (ag:Bool) (ks:List Nat):Bool :=
 match P.underlying t with
 | some (.map kt _) => leafs P 100 kt == some ks && aggOf P kt == some ag && sizeIn P kt == some ks.length
 | _ => false
theorem okKey_spec {P:Program} {t:TypeId} {ag:Bool} {ks:List Nat} (h:okKey P t ag ks = true):∃ kt et,P.underlying t = some (.map kt et) ∧ KeyT P kt ag ks:=by
 unfold okKey at h
 split at h
 ·rename_i kt et hu
  simp only [Bool.and_eq_true,beq_iff_eq] at h
  exact ⟨kt,et,hu,⟨h.1.1,h.1.2,h.2⟩⟩
 ·cases h
def okMapZ (P:Program) (t:TypeId) (zero:V):Bool :=
 match P.underlying t with
 | some (.map _ et) => okZ P et zero
 | _ => false
def okOp (P:Program) (ps:List (Nat × Nat)) (o:Oper) (vo:VO):Bool :=
 match vo,o.op with
 | .mv x,.move y => okOpd y x
 | .mv x,.assign y => okOpd y x
 | .pick c a b,.pick c' a' b' => okOpd c' c && okOpd a' a && okOpd b' b
 | .obj _ cells,.alloc t => okZero P t cells
 | .box _ x,.box _ y => okOpd y x
 | .gbox _ x,.box _ y => okOpd y x
 | .galloc _ zero,.alloc t => okZero P t zero
 | .mkmap,.makeMap _ none => true
 | .mapget ag ks zero ok x k,.lookup t p q ok' => okKey P t ag ks && okMapZ P t zero && ok == ok' && okOpd p x && okOpd q k
 | .mapset ag ks _ x k y,.mapUpdate t p q r => o.dst.isNone && okKey P t ag ks && okOpd p x && okOpd q k && okOpd r y
 | .build zero qs,.build t ps => okZero P t zero && (match placeOf P t with | some pl => okParts pl ps.toList qs | none => false)
 | .lit _ sh zero len qs,.buildSlice t n ps => okElem P t sh.length && len == n && Nat.blt 0 len && Nat.ble (len * sh.length) 16777216 && okRows len ps.toList qs &&
   (match P.underlying t with | some (.slice e) => (match (P.info? e).bind (·.zero) with | some z => okEls z.cells.toList sh zero | none => false) | _ => false)
 | .lit none sh zero len [],.makeSlice t y z => okElem P t sh.length && Nat.ble len 65536 && okOpd y (.c (.int .i64 len)) && okOpd z (.c (.int .i64 len)) &&
   (match P.underlying t with | some (.slice e) => (match (P.info? e).bind (·.zero) with | some z => okEls z.cells.toList sh zero | none => false) | _ => false)
 | .load _ sz x,.load t y => okSz P t sz && okOpd y x
 | .store _ sh x z,.store t y u => o.dst.isNone && sizeIn P t == some sh.length && okOpd y x && okOpd u z
 | .nilchk x,.nilCheck y => okOpd y x
 | .bin op x y,.binOp op' _ p q _ => decide (op = op') && okOpd p x && okOpd q y
 | .beq neg x y,.binOp op' t p q _ => decide (op' = if neg then .neq else .eql) && (match P.underlying t with | some .bool => true | _ => false) && okOpd p x && okOpd q y
 | .aeq neg ks x y,.binOp op' t p q _ => decide (op' = if neg then .neq else .eql) && leafs P 100 t == some ks && aggOf P t == some true && !P.eqGuardType P.depth t && sizeIn P t == some ks.length && okOpd p x && okOpd q y
 | .un op x,.unOp op' _ y => decide (op = op') && okOpd y x
 | .conv k x,.convert s t y => (P.underlying s).isSome && (match P.underlying t with | some (.int k') => decide (k' = k) | _ => false) && okOpd y x
 | .faddr off x,.fieldAddr s y fi => okOpd y x && (match P.underlying s with
   | some (.struct fs) => (match fs[fi]? with | some f => f.offset == off && (match sizeIn P f.type with | some n => n != 0 | none => false) | none => false)
   | _ => false)
 | .iaddr (some n) sz x i,.indexAddr t y j => okOpd y x && okOpd j i && (match P.underlying t with | some (.array len e) => len == n && sizeIn P e == some sz | _ => false)
 | .iaddr none sz x i,.indexAddr t y j => okOpd y x && okOpd j i && (match P.underlying t with | some (.slice e) => sizeIn P e == some sz | _ => false)
 | .idx n sz ag x i,.index t y j => okOpd y x && okOpd j i && (match P.underlying t with | some (.array len e) => len == n && sizeIn P e == some sz && okSz P e (bif ag then some sz else none) | _ => false)
 | .field off sz x,.field t y fi => okOpd y x && (match P.underlying t with
   | some (.struct fs) => (match fs[fi]? with | some f => f.offset == off && okSz P f.type sz | none => false)
   | _ => false)
 | .len x,.call ⟨.builtin .len,args,ts⟩ => (match args.toList with | [y] => okOpd y x | _ => false) && (match ts[0]? with | some t => (match P.underlying t with | some (.slice _) => true | _ => false) | none => false)
 | .slen x,.call ⟨.builtin .len,args,ts⟩ => (match args.toList with | [y] => okOpd y x | _ => false) && (match ts[0]? with | some t => (match P.underlying t with | some .string => true | _ => false) | none => false)
 | .app _ _ sh mx x y,.call ⟨.builtin .append,args,ts⟩ => (match args.toList with | [p,q] => okOpd p x && okOpd q y | _ => false) && (match ts.toList with | [t,u] => t == u && okElem P t sh.length && okMax P t mx | _ => false)
 | .appo _ _ sh x y,.call ⟨.builtin .append,args,ts⟩ => (match args.toList with | [p,q] => okOpd p x && okOpd q y | _ => false) && (match ts.toList with | [t,u] => t == u && okElem P t sh.length | _ => false)
 | .ext x i,.extract y j => okOpd y x && i == j
 | .call _ f args reg,.call ⟨.value g,as,_⟩ => okOpd g f && okArgs as.toList args && inj reg
 | .wrt k f _ x,.call ⟨.value g,as,_⟩ => look f ps == some k && okOpd g (.c (.fn f [])) && (match as.toList with | [q] => okOpd q x | _ => false)
 | .own f args _ _,.call ⟨.value g,as,_⟩ => okOpd g f && okArgs as.toList args
 | .rcall f args,.call ⟨.value g,as,_⟩ => okOpd g f && okArgs as.toList args
 | .mkobj _ zero x,.makeSlice t y z => okOpd y x && okOpd z x && okElem P t zero.length && (match P.underlying t with | some (.slice e) => okZero P e zero | _ => false)
 | .slc sz x lo hi,.slice t y l h none => okOpd y x && okOpt l lo && okOpt h hi && (match P.underlying t with | some (.slice e) => sizeIn P e == some sz | _ => false)
 | .mm3 mx x y z,.call ⟨.builtin b,args,_⟩ => decide (b = if mx then .max else .min) && (match args.toList with | [p,q,r] => okOpd p x && okOpd q y && okOpd r z | _ => false)
 | .mm mx x y,.call ⟨.builtin b,args,_⟩ => decide (b = if mx then .max else .min) && (match args.toList with | [p,q] => okOpd p x && okOpd q y | _ => false)
 | .mkfn f cap,.makeFunc (.func g) first caps => f == g && first.isEmpty && okOpds caps.toList cap
 | .lcall f args _,.call ⟨.value g,as,_⟩ => okOpd g f && okArgs3 as.toList args
 | .zlit _,.buildSlice t n ps => n == 0 && ps.isEmpty && (match P.underlying t with | some (.slice e) => (sizeIn P e).isSome | _ => false)
 | .isnil neg x,.binOp op t p q _ => decide (op = if neg then .neq else .eql) && (match P.underlying t with | some (.slice _) => true | _ => false) && okOpd p x && okOpd q (.c .nils)
 | .gtake _ x,.load t y => okSz P t none && okOpd y x
 | .gput _ x z,.store t y u => o.dst.isNone && sizeIn P t == some 1 && okOpd y x && okOpd u z
 | _,_ => false
theorem okArgs_spec:∀ {ys:List Operand} {xs:List (Sh × Opd)},okArgs ys xs = true → xs.length = ys.length ∧ ∀ (i:Nat) sh x y,xs[i]? = some (sh,x) → ys[i]? = some y → okOpd y x = true
 | [],[],_ => by simp
 | [],_ :: _,h => by simp [okArgs] at h
 | _ :: _,[],h => by simp [okArgs] at h
 | y :: ys,(sh,x) :: xs,h => by
   simp only [okArgs,Bool.and_eq_true] at h
   obtain ⟨p,q⟩:=okArgs_spec h.2
   refine ⟨by simp [p],fun i sh' x' y' hx hy => ?_⟩
   cases i with
   | zero => simp at hx hy;obtain ⟨_,rfl⟩:=hx;subst hy;exact h.1
   | succ i => exact q i sh' x' y' (by simpa using hx) (by simpa using hy)
theorem okOpds_spec:∀ {ys:List Operand} {xs:List Opd},okOpds ys xs = true → xs.length = ys.length ∧ ∀ (i:Nat) x y,xs[i]? = some x → ys[i]? = some y → okOpd y x = true
 | [],[],_ => by simp
 | [],_ :: _,h => by simp [okOpds] at h
 | _ :: _,[],h => by simp [okOpds] at h
 | y :: ys,x :: xs,h => by
   simp only [okOpds,Bool.and_eq_true] at h
   obtain ⟨p,q⟩:=okOpds_spec h.2
   refine ⟨by simp [p],fun i x' y' hx hy => ?_⟩
   cases i with
   | zero => simp at hx hy;subst hx;subst hy;exact h.1
   | succ i => exact q i x' y' (by simpa using hx) (by simpa using hy)
theorem okZero_spec {P:Program} {t:TypeId} {cells:List V} (h:okZero P t cells = true):∃ i z,P.info? t = some i ∧ i.zero = some z ∧ okVals z.cells.toList cells = true:=by
 unfold okZero at h
 cases hi:P.info? t with
 | none => simp [hi] at h
 | some i =>
   cases hz:i.zero with
   | none => simp [hi,hz] at h
   | some z => simp [hi,hz] at h;exact ⟨i,z,rfl,hz,h⟩
theorem okMax_spec {P:Program} {t e:TypeId} {mx:Nat} (h:okMax P t mx = true) (he:P.underlying t = some (.slice e)):mx ≤ 140737488355328 ∧ ∀ i,P.info? e = some i → mx * i.bytes ≤ 140737488355328:=by
 unfold okMax at h
 rw [he] at h
 simp only at h
 split at h
 ·rename_i i hi
  simp only [Bool.and_eq_true] at h
  refine ⟨Nat.le_of_ble_eq_true h.1,fun i' hi' => ?_⟩
  rw [hi] at hi'
  cases hi'
  exact Nat.le_of_ble_eq_true h.2
 ·cases h
theorem okElem_spec {P:Program} {t:TypeId} {n:Nat} (h:okElem P t n = true):∃ e i z,P.underlying t = some (.slice e) ∧ P.info? e = some i ∧ i.zero = some z ∧ i.size = n ∧ z.cells.size = n ∧ i.bytes ≤ 32768 ∧ 0 < n:=by
 unfold okElem at h
 split at h
 ·rename_i e hu
  split at h
  ·rename_i i hi
   split at h
   ·rename_i z hz
    simp only [Bool.and_eq_true,beq_iff_eq] at h
    exact ⟨e,i,z,hu,hi,hz,h.1.1.1,h.1.1.2,Nat.le_of_ble_eq_true h.1.2,Nat.le_of_ble_eq_true h.2⟩
   ·cases h
  ·cases h
 ·cases h
section
variable {P:Program} {E:Entry} {g g':Gh} {S S':St} {a:Act} {w w':World}
theorem op_does {ps:List (Nat × Nat)} (hps:∀ f k,look f ps = some k → MutOK P k f) {o:Oper} {vo:VO} {C:CallF} (hok:okOp P ps o vo = true)
  (hC:∀ f args G r G',C f args G = some (r,G') → CallSim P f args G r G')
  (hn:∀ n ∈ vo.names,S.noMen n) (hnb:∀ id x v,vo = .box id x → S.ev x = some v → v.men id = false)
  (hR:R E g S a w) (hd:∀ d,o.dst = some d → d < E.nt) (hrun:VO.run C o.dst S vo = some S'):Does P E o S S' a w:=by
 unfold okOp at hok
 split at hok
 ·rename_i x y ho;exact do_mv (.inl ho) hok hR hd hrun
 ·rename_i x y ho;exact do_mv (.inr ho) hok hR hd hrun
 ·rename_i c p q c' p' q' ho
  simp only [Bool.and_eq_true] at hok
  exact do_pick ho hok.1.1 hok.1.2 hok.2 hR hd hrun
 ·rename_i id cells t ho
  obtain ⟨i,z,h1,h2,h3⟩:=okZero_spec hok
  exact do_obj ho h1 h2 h3 (hn id (by simp [VO.names])) hR hd hrun
 ·rename_i id x t y ho
  exact do_box ho hok (hn id (by simp [VO.names])) (fun v hv => hnb id x v rfl hv) hR hd hrun
 ·rename_i sh x t y ho
  exact do_gbox ho hok hR hd hrun
 ·rename_i sh zero t ho
  obtain ⟨i,z,h1,h2,h3⟩:=okZero_spec hok
  exact do_galloc ho h1 h2 h3 hR hd hrun
 ·rename_i t ho
  exact do_mkmap ho hR hd hrun
 ·rename_i ag ks zero ok x k t p q ok' ho
  simp only [Bool.and_eq_true,beq_iff_eq] at hok
  obtain ⟨⟨⟨⟨h1,h2⟩,rfl⟩,h4⟩,h5⟩:=hok
  obtain ⟨kt,et,hu,hk⟩:=okKey_spec h1
  simp only [okMapZ,hu] at h2
  exact do_mapget ho hu hk h2 h4 h5 hR hd hrun
 ·rename_i ag ks sh x k y t p q r ho
  simp only [Bool.and_eq_true,Option.isNone_iff_eq_none] at hok
  obtain ⟨⟨⟨⟨h1,h2⟩,h3⟩,h4⟩,h5⟩:=hok
  obtain ⟨kt,et,hu,hk⟩:=okKey_spec h2
  exact do_mapset ho h1 hu hk h3 h4 h5 hR (by rw [h1] at hrun;exact h1 ▸ hrun)
 ·rename_i zero qs t ps ho
  simp only [Bool.and_eq_true] at hok
  obtain ⟨i,z,h1,h2,h3⟩:=okZero_spec hok.1
  have h4:=hok.2
  split at h4
  ·rename_i pl hpl;exact do_build ho h1 h2 hpl h3 h4 hR hd hrun
  ·cases h4
 ·rename_i tok sh zero len qs t n ps ho
  simp only [Bool.and_eq_true,beq_iff_eq] at hok
  obtain ⟨⟨⟨⟨⟨h1,h2⟩,h3⟩,h4⟩,h5⟩,h6⟩:=hok
  subst h2
  obtain ⟨e,i,z,q1,q2,q3,q4,q5,q6,q7⟩:=okElem_spec h1
  simp only [q1,q2,q3,Option.bind_some] at h6
  exact do_lit ho q1 q2 q3 q4 q5 q7 (Nat.le_of_ble_eq_true h3) (Nat.le_of_ble_eq_true h4) h6 h5 (fun f hf => hn f (by subst hf;simp [VO.names])) hR hd hrun
 ·rename_i sh zero len t y z ho
  simp only [Bool.and_eq_true] at hok
  obtain ⟨⟨⟨⟨h1,h2⟩,h3⟩,h4⟩,h6⟩:=hok
  obtain ⟨e,i,z,q1,q2,q3,q4,q5,q6,q7⟩:=okElem_spec h1
  simp only [q1,q2,q3,Option.bind_some] at h6
  exact do_litmk ho q1 q2 q3 q4 q5 q6 q7 (Nat.le_of_ble_eq_true h2) h6 h3 h4 hR hd hrun
 ·rename_i root sz x t y ho
  simp only [Bool.and_eq_true] at hok
  exact do_load ho hok.1 hok.2 hR hd hrun
 ·rename_i root sh x z t y u ho
  simp only [Bool.and_eq_true,beq_iff_eq,Option.isNone_iff_eq_none] at hok
  exact do_store ho hok.1.1.1 hok.1.1.2 hok.1.2 hok.2 hR (by rw [hok.1.1.1] at hrun;exact hok.1.1.1 ▸ hrun)
 ·rename_i x y ho;exact do_nilchk ho hok hR hd hrun
 ·rename_i op x y op' t p q t' ho
  simp only [Bool.and_eq_true,decide_eq_true_eq] at hok
  obtain ⟨⟨rfl,h1⟩,h2⟩:=hok
  exact do_bin ho h1 h2 hR hd hrun
 ·rename_i neg x y op' t p q t' ho
  simp only [Bool.and_eq_true,decide_eq_true_eq] at hok
  obtain ⟨⟨⟨rfl,h0⟩,h1⟩,h2⟩:=hok
  split at h0
  ·rename_i hu;exact do_beq ho hu h1 h2 hR hd hrun
  ·cases h0
 ·rename_i neg ks x y op' t p q t' ho
  simp only [Bool.and_eq_true,decide_eq_true_eq,beq_iff_eq,Bool.not_eq_true'] at hok
  obtain ⟨⟨⟨⟨⟨⟨rfl,h0⟩,h1⟩,h2⟩,h3⟩,h4⟩,h5⟩:=hok
  exact do_aeq ho h0 h1 h2 h3 h4 h5 hR hd hrun
 ·rename_i op x op' t y ho
  simp only [Bool.and_eq_true,decide_eq_true_eq] at hok
  obtain ⟨rfl,h1⟩:=hok
  exact do_un ho h1 hR hd hrun
 ·rename_i k x s t y ho
  simp only [Bool.and_eq_true,Option.isSome_iff_exists] at hok
  obtain ⟨⟨⟨d,h0⟩,h1⟩,h2⟩:=hok
  split at h1
  ·rename_i k' hu
   have:=of_decide_eq_true h1
   subst this
   exact do_conv ho h0 hu h2 hR hd hrun
  ·cases h1
 ·rename_i off x s y fi ho
  simp only [Bool.and_eq_true] at hok
  obtain ⟨h0,h1⟩:=hok
  split at h1
  ·rename_i fs hu
   split at h1
   ·rename_i f hf
    simp only [Bool.and_eq_true,beq_iff_eq] at h1
    obtain ⟨h2,h3⟩:=h1
    split at h3
    ·rename_i n hsz;exact do_faddr ho hu hf hsz (by simpa using h3) h2 h0 hR hd hrun
    ·cases h3
   ·cases h1
  ·cases h1
 ·rename_i n sz x i t y j ho
  simp only [Bool.and_eq_true] at hok
  obtain ⟨⟨h0,h1⟩,h2⟩:=hok
  split at h2
  ·rename_i len e hu
   simp only [Bool.and_eq_true,beq_iff_eq] at h2
   obtain ⟨rfl,h3⟩:=h2
   exact do_iaddrArr ho hu h3 h0 h1 hR hd hrun
  ·cases h2
 ·rename_i sz x i t y j ho
  simp only [Bool.and_eq_true] at hok
  obtain ⟨⟨h0,h1⟩,h2⟩:=hok
  split at h2
  ·rename_i e hu
   exact do_iaddrSl ho hu (eq_of_beq h2) h0 h1 hR hd hrun
  ·cases h2
 ·rename_i n sz ag x i t y j ho
  simp only [Bool.and_eq_true] at hok
  obtain ⟨⟨h0,h1⟩,h2⟩:=hok
  split at h2
  ·rename_i len e hu
   simp only [Bool.and_eq_true,beq_iff_eq] at h2
   obtain ⟨⟨rfl,h3⟩,h4⟩:=h2
   exact do_idx ho hu h4 h3 h0 h1 hR hd hrun
  ·cases h2
 ·rename_i off sz x t y fi ho
  simp only [Bool.and_eq_true] at hok
  obtain ⟨h0,h1⟩:=hok
  split at h1
  ·rename_i fs hu
   split at h1
   ·rename_i f hf
    simp only [Bool.and_eq_true,beq_iff_eq] at h1
    exact do_field ho hu hf h1.1 h1.2 h0 hR hd hrun
   ·cases h1
  ·cases h1
 ·rename_i x args ts ho
  simp only [Bool.and_eq_true] at hok
  obtain ⟨h0,h1⟩:=hok
  split at h0
  ·rename_i y hy
   split at h1
   ·rename_i t ht
    split at h1
    ·rename_i e hu
     have:args = #[y]:=by apply Array.ext';simpa using hy
     subst this
     exact do_len ho ht hu h0 hR hd hrun
    ·cases h1
   ·cases h1
  ·cases h0
 ·rename_i x args ts ho
  simp only [Bool.and_eq_true] at hok
  obtain ⟨h0,h1⟩:=hok
  split at h0
  ·rename_i y hy
   split at h1
   ·rename_i t ht
    split at h1
    ·rename_i hu
     have:args = #[y]:=by apply Array.ext';simpa using hy
     subst this
     exact do_slen ho ht hu h0 hR hd hrun
    ·cases h1
   ·cases h1
  ·cases h0
 ·rename_i fam src sh mx x y args ts ho
  simp only [Bool.and_eq_true] at hok
  obtain ⟨h0,h1⟩:=hok
  split at h0
  ·rename_i p q hpq
   split at h1
   ·rename_i t u htu
    simp only [Bool.and_eq_true,beq_iff_eq] at h1 h0
    obtain ⟨⟨rfl,h2⟩,h5⟩:=h1
    obtain ⟨e,i,z,q1,q2,q3,q4,q5,q6,q7⟩:=okElem_spec h2
    have e1:args = #[p,q]:=by apply Array.ext';simpa using hpq
    have e2:ts = #[t,t]:=by apply Array.ext';simpa using htu
    subst e1;subst e2
    exact do_app (okMax_spec h5 q1) ho q1 ⟨⟨i,z,q2,q3,q4,q5,q6⟩,q7⟩ h0.1 h0.2 (hn fam (by simp [VO.names])) hR hd hrun
   ·cases h1
  ·cases h0
 ·rename_i nw src sh x y args ts ho
  simp only [Bool.and_eq_true] at hok
  obtain ⟨h0,h1⟩:=hok
  split at h0
  ·rename_i p q hpq
   split at h1
   ·rename_i t u htu
    simp only [Bool.and_eq_true,beq_iff_eq] at h1 h0
    obtain ⟨rfl,h2⟩:=h1
    obtain ⟨e,i,z,q1,q2,q3,q4,q5,q6,q7⟩:=okElem_spec h2
    have e1:args = #[p,q]:=by apply Array.ext';simpa using hpq
    have e2:ts = #[t,t]:=by apply Array.ext';simpa using htu
    subst e1;subst e2
    exact do_appo ho q1 ⟨⟨i,z,q2,q3,q4,q5,q6⟩,q7⟩ h0.1 h0.2 (hn nw (by simp [VO.names])) hR hd hrun
   ·cases h1
  ·cases h0
 ·rename_i x i y j ho
  simp only [Bool.and_eq_true,beq_iff_eq] at hok
  obtain ⟨h0,rfl⟩:=hok
  exact do_ext ho h0 hR hd hrun
 ·rename_i alone f args reg gg as ts ho
  simp only [Bool.and_eq_true] at hok
  have hreg:∀ p f,look p reg = some f → S.noMen f:=fun p f hp => hn f (by
   simp only [VO.names,regsOf]
   exact List.mem_map.2 ⟨(p,f),look_mem hp,rfl⟩)
  cases alone
  ·exact do_call ho hok.1.1 (okArgs_spec hok.1.2) hC hok.2 hreg hR hd hrun
  ·exact do_callAlone ho hok.1.1 (okArgs_spec hok.1.2) hC hok.2 hreg hR hd hrun
 ·rename_i k f _ x gg as ts ho
  simp only [Bool.and_eq_true,beq_iff_eq] at hok
  obtain ⟨⟨h0,h1⟩,h2⟩:=hok
  split at h2
  ·rename_i q hq
   have e:as = #[q]:=by apply Array.ext';simpa using hq
   subst e
   refine do_mut ho ?_ h2 (hps f k h0) hR hd (by simpa only [VO.run] using hrun)
   have hr:=ev_rel (v:=.fn f []) hR h1 rfl
   generalize a.eval gg = y at hr
   cases hr with
   | plain h _ => cases h
   | fn _ _ xs hl hx =>
     have:xs = #[]:=by
      apply Array.eq_empty_of_size_eq_zero
      simpa using hl.symm
     rw [this]
  ·cases h2
 ·rename_i f args id pos gg as ts ho
  simp only [Bool.and_eq_true] at hok
  exact do_own ho hok.1 (okArgs_spec hok.2) hC (hn id (by simp [VO.names])) hR hd hrun
 ·rename_i f args gg as ts ho
  simp only [Bool.and_eq_true] at hok
  exact do_call (reg:=[]) ho hok.1 (okArgs_spec hok.2) hC rfl (by intro p f h;cases h) hR hd (rcall_run hrun)
 ·rename_i id zero x t y z ho
  simp only [Bool.and_eq_true] at hok
  obtain ⟨⟨⟨h0,h1⟩,h2⟩,h3⟩:=hok
  obtain ⟨e,i,z,q1,q2,q3,q4,q5,q6,q7⟩:=okElem_spec h2
  simp only [q1] at h3
  obtain ⟨i',z',r1,r2,r3⟩:=okZero_spec h3
  rw [q2] at r1
  cases r1
  rw [q3] at r2
  cases r2
  exact do_mkobj ho q1 q2 q3 q4 (by omega) q6 r3 h0 h1 (hn id (by simp [VO.names])) hR hd hrun
 ·rename_i sz x lo hi t y l h ho
  simp only [Bool.and_eq_true] at hok
  obtain ⟨⟨⟨h0,h1⟩,h2⟩,h3⟩:=hok
  split at h3
  ·rename_i e hu
   refine do_slc ho hu (eq_of_beq h3) h0 ?_ ?_ hR hd hrun
   ·unfold okOpt at h1;split at h1 <;> first | trivial | exact h1 | cases h1
   ·unfold okOpt at h2;split at h2 <;> first | trivial | exact h2 | cases h2
  ·cases h3
 ·rename_i mx x y z b args ts ho
  simp only [Bool.and_eq_true,decide_eq_true_eq] at hok
  obtain ⟨rfl,h1⟩:=hok
  split at h1
  ·rename_i p q r hpq
   simp only [Bool.and_eq_true] at h1
   have e1:args = #[p,q,r]:=by apply Array.ext';simpa using hpq
   subst e1
   exact do_mm3 ho h1.1.1 h1.1.2 h1.2 hR hd hrun
  ·cases h1
 ·rename_i mx x y b args ts ho
  simp only [Bool.and_eq_true,decide_eq_true_eq] at hok
  obtain ⟨rfl,h1⟩:=hok
  split at h1
  ·rename_i p q hpq
   simp only [Bool.and_eq_true] at h1
   have e1:args = #[p,q]:=by apply Array.ext';simpa using hpq
   subst e1
   exact do_mm ho h1.1 h1.2 hR hd hrun
  ·cases h1
 ·rename_i f cap gg first caps ho
  simp only [Bool.and_eq_true,beq_iff_eq,Array.isEmpty_iff] at hok
  obtain ⟨⟨rfl,rfl⟩,h2⟩:=hok
  obtain ⟨q1,q2⟩:=okOpds_spec h2
  exact do_mkfn ho ⟨by simpa using q1,fun i x y hx hy => q2 i x y hx (by simpa using hy)⟩ hR hd hrun
 ·rename_i f args ids gg as ts ho
  simp only [Bool.and_eq_true] at hok
  exact do_lcall ho hok.1 (okArgs3_spec hok.2) hC hR hd hrun
 ·rename_i n t m ps ho
  simp only [Bool.and_eq_true,beq_iff_eq,Array.isEmpty_iff] at hok
  obtain ⟨⟨rfl,rfl⟩,h⟩:=hok
  split at h
  ·rename_i e hu
   obtain ⟨k,hk⟩:=Option.isSome_iff_exists.1 h
   exact do_zlit ho hu hk hR hd hrun
  ·cases h
 ·rename_i neg x op t p q ty ho
  simp only [Bool.and_eq_true,decide_eq_true_eq] at hok
  obtain ⟨⟨⟨h1,h2⟩,h3⟩,h4⟩:=hok
  split at h2
  ·rename_i e hu
   exact do_isnil ho h1 hu h3 h4 hR hd hrun
  ·cases h2
 ·rename_i fam x t y ho
  simp only [Bool.and_eq_true] at hok
  exact do_gtake ho hok.1 hok.2 (hn fam (by simp [VO.names])) hR hd hrun
 ·rename_i fam x z t y u ho
  simp only [Bool.and_eq_true,beq_iff_eq,Option.isNone_iff_eq_none] at hok
  exact do_gput ho hok.1.1.1 hok.1.1.2 hok.1.2 hok.2 hR (by rw [hok.1.1.1] at hrun;exact hok.1.1.1 ▸ hrun)
 ·cases hok
end
end Go.Vm
