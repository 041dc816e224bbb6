/- The value machine, 23: readings of plain types. -/
import Derived.Test.YtfjdfnegookkcaaGreatVmL
import Derived.Test.YtfjdfnegookkcaaGreatVmM
namespace Go.Vm
set_option linter.all false
open Go.ChangeShapes
theorem tyv_int {H:Type} {P:Program} {d:Nat} {t:TypeId} {k:IntKind} {vs:List V} {x:DataW H} (ht:P.underlying t = some (.int k)) (h:TyV P d t vs x) :
  ∃ n,vs = [.int k n] ∧ (Lit.int k n).wf = true:=by
 cases d with
 | zero => exact h.elim
 | succ d =>
   simp only [TyV,ht] at h
   obtain ⟨n,h1,h2,_⟩:=h
   exact ⟨n,h1,h2⟩
theorem tyv_bool {H:Type} {P:Program} {d:Nat} {t:TypeId} {vs:List V} {x:DataW H} (ht:P.underlying t = some .bool) (h:TyV P d t vs x):∃ b,vs = [.bool b]:=by
 cases d with
 | zero => exact h.elim
 | succ d =>
   simp only [TyV,ht] at h
   obtain ⟨b,h1,_⟩:=h
   exact ⟨b,h1⟩
theorem tyv_str {H:Type} {P:Program} {d:Nat} {t:TypeId} {vs:List V} {x:DataW H} (ht:P.underlying t = some .string) (h:TyV P d t vs x):∃ s,vs = [.str s]:=by
 cases d with
 | zero => exact h.elim
 | succ d =>
   simp only [TyV,ht] at h
   obtain ⟨b,h1,_⟩:=h
   exact ⟨b,h1⟩
abbrev okI (k:IntKind) (n:Int):Prop:=(Lit.int k n).wf = true
theorem tyv_slice {H:Type} {P:Program} {d:Nat} {t e:TypeId} {α:Type} (row:α → List V) (I:α → Prop) {vs:List V} {x:DataW H} (ht:P.underlying t = some (.slice e))
  (he:∀ (d:Nat) (vs:List V) (x:DataW H),TyV P d e vs x → ∃ a,vs = row a ∧ I a) (h:TyV P d t vs x):∃ l:List α,vs = [.slice none (P.cellsOf e) (l.map row)] ∧ (∀ a ∈ l,I a) ∧ l.length ≤ 9223372036854775807:=by
 cases d with
 | zero => exact h.elim
 | succ d =>
   simp only [TyV,ht] at h
   obtain ⟨es,xs,rfl,_,hmax,hlen,hq⟩:=h
   suffices hs:∀ (es:List (List V)) (xs:List (DataW H)),es.length = xs.length → (∀ (i:Nat) row y,es[i]? = some row → xs[i]? = some y → TyV P d e row y) → ∃ l:List α,es = l.map row ∧ ∀ a ∈ l,I a by
    obtain ⟨l,rfl,hl⟩:=hs es xs hlen (fun i r y h1 h2 => (hq i r y h1 h2).2)
    exact ⟨l,rfl,hl,by simpa using hmax⟩
   intro es
   induction es with
   | nil => intro xs _ _;exact ⟨[],rfl,by simp⟩
   | cons r es ih =>
     intro xs hl hr
     cases xs with
     | nil => simp at hl
     | cons y xs =>
       obtain ⟨a,rfl,ha⟩:=he d r y (hr 0 r y rfl rfl)
       obtain ⟨l,rfl,hI⟩:=ih xs (by simpa using hl) (fun i r y h1 h2 => hr (i + 1) r y (by simpa using h1) (by simpa using h2))
       exact ⟨a :: l,rfl,by simpa using ⟨ha,hI⟩⟩
theorem okI_u16 {n:Int} (h:okI .u16 n):0 ≤ n ∧ n ≤ 65535:=by
 simp [okI,Lit.wf,IntKind.min,IntKind.max,IntKind.signed,IntKind.bits] at h
 omega
theorem okI_u8 {n:Int} (h:okI .u8 n):0 ≤ n ∧ n ≤ 255:=by
 simp [okI,Lit.wf,IntKind.min,IntKind.max,IntKind.signed,IntKind.bits] at h
 omega
theorem okI_i64 {n:Int} (h:okI .i64 n):-9223372036854775808 ≤ n ∧ n ≤ 9223372036854775807:=by
 simp [okI,Lit.wf,IntKind.min,IntKind.max,IntKind.signed,IntKind.bits] at h
 omega
theorem tyv_ints {H:Type} {P:Program} {d:Nat} {t e:TypeId} {vs:List V} {x:DataW H} (ht:P.underlying t = some (.slice e)) (he:P.underlying e = some (.int .i64)) (hc:P.cellsOf e = 1) (h:TyV P d t vs x) :
  ∃ l:List Int,vs = [.slice none 1 (l.map fun n => [.int .i64 n])] ∧ (∀ n ∈ l,okI .i64 n) ∧ l.length ≤ 9223372036854775807:=by
 have:=tyv_slice (fun n:Int => [V.int .i64 n]) (fun n => okI .i64 n) ht (fun d vs x h => tyv_int he h) h
 rwa [hc] at this
theorem argOf_one {P:Program} {t:TypeId} {v:V} (h:∀ fs,P.underlying t ≠ some (.struct fs)):argOf P t [v] = v:=by
 unfold argOf
 split
 ·rename_i fs hf;exact absurd hf (h fs)
 ·rfl
def fieldAt (P:Program) (t:TypeId) (i:Nat):Option (TypeId × Nat × Nat):=match P.underlying t with
 | some (.struct fs) => (fs[i]?).map fun f => (f.type,f.offset,P.cellsOf f.type)
 | _ => none
def structAt (P:Program) (t:TypeId) (n:Nat):Bool:=match P.underlying t with
 | some (.struct _) => P.cellsOf t == n
 | _ => false
theorem tyv_field {H:Type} {P:Program} {d:Nat} {t ty:TypeId} {i off n:Nat} {vs:List V} {x:DataW H} (hf:fieldAt P t i = some (ty,off,n)) (h:TyV P d t vs x):∃ (d':Nat) (y:DataW H),TyV P d' ty ((vs.drop off).take n) y:=by
 cases d with
 | zero => exact h.elim
 | succ d =>
   unfold fieldAt at hf
   split at hf
   ·rename_i fs ht
    simp only [TyV,ht] at h
    obtain ⟨xs,rfl,hl,_,hq⟩:=h
    cases hfi:fs[i]? with
    | none => simp [hfi] at hf
    | some f =>
      simp only [hfi,Option.map_some,Option.some.injEq,Prod.mk.injEq] at hf
      obtain ⟨rfl,rfl,rfl⟩:=hf
      have hlt:i < xs.length:=by rw [hl];exact (Array.getElem?_eq_some_iff.1 hfi).1
      exact ⟨d,xs[i],hq i f _ hfi (List.getElem?_eq_getElem hlt)⟩
   ·cases hf
theorem tyv_len {H:Type} {P:Program} {d:Nat} {t:TypeId} {n:Nat} {vs:List V} {x:DataW H} (hs:structAt P t n = true) (h:TyV P d t vs x):vs.length = n:=by
 cases d with
 | zero => exact h.elim
 | succ d =>
   unfold structAt at hs
   split at hs
   ·rename_i fs ht
    simp only [TyV,ht] at h
    obtain ⟨xs,rfl,_,hl,_⟩:=h
    rw [hl];exact eq_of_beq hs
   ·cases hs
theorem argOf_struct {P:Program} {t:TypeId} {vs:List V} {n:Nat} (hs:structAt P t n = true):argOf P t vs = .agg vs:=by
 unfold structAt at hs
 unfold argOf
 split at hs
 ·rename_i fs ht;simp [ht]
 ·cases hs
theorem tyv_fint {H:Type} {P:Program} {d:Nat} {t ty:TypeId} {i off:Nat} {k:IntKind} {vs:List V} {x:DataW H} (hf:fieldAt P t i = some (ty,off,1)) (hk:P.underlying ty = some (.int k)) (h:TyV P d t vs x):∃ n,(vs.drop off).take 1 = [.int k n] ∧ okI k n:=by
 obtain ⟨d',y,h'⟩:=tyv_field hf h
 exact tyv_int hk h'
theorem argsV_cons {H:Type} {P:Program} {d:Nat} {t:TypeId} {ts:List TypeId}:∀ {us:List V} {xs:List (DataW H)},ArgsV P d (t :: ts) us xs →
  ∃ vs x us' xs',us = argOf P t vs :: us' ∧ xs = x :: xs' ∧ TyV P d t vs x ∧ ArgsV P d ts us' xs'
 | [],_,h => h.elim
 | _ :: _,[],h => h.elim
 | u :: us,x :: xs,h => by
   obtain ⟨⟨vs,rfl,h1⟩,h2⟩:=h
   exact ⟨vs,x,us,xs,rfl,rfl,h1,h2⟩
theorem argsV_nil {H:Type} {P:Program} {d:Nat}:∀ {us:List V} {xs:List (DataW H)},ArgsV P d [] us xs → us = []
 | [],_,_ => rfl
 | _ :: _,[],h => h.elim
 | _ :: _,_ :: _,h => h.elim
theorem tys {P:Program} {d:Nat} {ts:List TypeId} (h:(ts.all fun t => plainTy P d t && P.readableRec t && Nat.blt t P.types.size) = true):∀ t ∈ ts,plainTy P d t = true ∧ P.readableRec t = true ∧ t < P.types.size:=fun t ht => by
 have h1:=List.all_eq_true.1 h t ht
 simp only [Bool.and_eq_true] at h1
 exact ⟨h1.1.1,h1.1.2,by simpa using h1.2⟩
def TyW {H:Type} (P:Program) (d:Nat) (t:TypeId) (vs:List V) (x:DataW H):Prop:=TyV P d t vs x ∧ ∀ n ∈ x.weights P t,n ≤ reachBytes
theorem weightsAll_mem {H:Type} {P:Program} {e:TypeId}:∀ {xs:List (DataW H)} {y:DataW H} {n:Nat},y ∈ xs → n ∈ y.weights P e → n ∈ DataW.weightsAll P e xs
 | x :: xs,y,n,hy,hn => by
   simp only [DataW.weightsAll,List.mem_append]
   rcases List.mem_cons.1 hy with rfl | hy
   ·exact .inl hn
   ·exact .inr (weightsAll_mem hy hn)
theorem weightsEach_mem {H:Type} {P:Program}:∀ {ts:List TypeId} {xs:List (DataW H)} {i:Nat} {t:TypeId} {y:DataW H} {n:Nat},ts[i]? = some t → xs[i]? = some y → n ∈ y.weights P t → n ∈ DataW.weightsEach P ts xs
 | [],_,_,_,_,_,h,_,_ => by simp at h
 | _ :: _,[],_,_,_,_,_,h,_ => by simp at h
 | t :: ts,x :: xs,0,_,_,_,h,h',hn => by
   simp at h h'
   subst h;subst h'
   simp only [DataW.weightsEach,List.mem_append]
   exact .inl hn
 | t :: ts,x :: xs,i + 1,_,_,_,h,h',hn => by
   simp only [DataW.weightsEach,List.mem_append]
   exact .inr (weightsEach_mem (by simpa using h) (by simpa using h') hn)
theorem weightsEach_app {H:Type} {P:Program}:∀ {ts us:List TypeId} {xs ys:List (DataW H)} {n:Nat},ts.length = xs.length → n ∈ DataW.weightsEach P ts xs → n ∈ DataW.weightsEach P (ts ++ us) (xs ++ ys)
 | [],_,[],_,_,_,h => by simp [DataW.weightsEach] at h
 | [],_,_ :: _,_,_,h,_ => by simp at h
 | _ :: _,_,[],_,_,h,_ => by simp at h
 | t :: ts,us,x :: xs,ys,n,hl,h => by
   simp only [DataW.weightsEach,List.mem_append,List.cons_append] at h ⊢
   rcases h with h | h
   ·exact .inl h
   ·exact .inr (weightsEach_app (by simpa using hl) h)
theorem tyw_slice {H:Type} {P:Program} {d:Nat} {t e:TypeId} {α:Type} (row:α → List V) (I:α → Prop) {vs:List V} {x:DataW H} (ht:P.underlying t = some (.slice e))
  (he:∀ (d:Nat) (vs:List V) (x:DataW H),TyW P d e vs x → ∃ a,vs = row a ∧ I a) (h:TyW P d t vs x):∃ l:List α,vs = [.slice none (P.cellsOf e) (l.map row)] ∧ (∀ a ∈ l,I a) ∧ l.length * P.bytesOf e ≤ reachBytes:=by
 obtain ⟨h,hw⟩:=h
 cases d with
 | zero => exact h.elim
 | succ d =>
   simp only [TyV,ht] at h
   obtain ⟨es,xs,rfl,hx,_,hlen,hq⟩:=h
   have hq':∀ (i:Nat) (r:List V) (y:DataW H),es[i]? = some r → xs[i]? = some y → TyW P d e r y:=fun i r y h1 h2 => by
    refine ⟨(hq i r y h1 h2).2,fun n hn => ?_⟩
    rcases hx with ⟨sp,rfl⟩ | ⟨rfl,rfl⟩
    ·refine hw n ?_
     simp only [DataW.weights,ht,List.mem_cons,List.mem_append]
     exact .inr (.inl (weightsAll_mem (List.mem_of_getElem? h2) hn))
    ·simp at h2
   have hb:es.length * P.bytesOf e ≤ reachBytes:=by
    rcases hx with ⟨sp,rfl⟩ | ⟨rfl,rfl⟩
    ·have:=hw ((xs.length + sp.length) * P.bytesOf e) (by simp [DataW.weights,ht])
     rw [hlen]
     exact Nat.le_trans (Nat.mul_le_mul_right _ (Nat.le_add_right _ _)) this
    ·rw [hlen];simp
   suffices hs:∀ (es:List (List V)) (xs:List (DataW H)),es.length = xs.length → (∀ (i:Nat) row y,es[i]? = some row → xs[i]? = some y → TyW P d e row y) → ∃ l:List α,es = l.map row ∧ ∀ a ∈ l,I a by
    obtain ⟨l,rfl,hl⟩:=hs es xs hlen hq'
    exact ⟨l,rfl,hl,by simpa using hb⟩
   intro es
   induction es with
   | nil => intro xs _ _;exact ⟨[],rfl,by simp⟩
   | cons r es ih =>
     intro xs hl hr
     cases xs with
     | nil => simp at hl
     | cons y xs =>
       obtain ⟨a,rfl,ha⟩:=he d r y (hr 0 r y rfl rfl)
       obtain ⟨l,rfl,hl'⟩:=ih xs (by simpa using hl) fun i r y h1 h2 => hr (i + 1) r y (by simpa using h1) (by simpa using h2)
       exact ⟨a :: l,rfl,fun b hb => by rcases List.mem_cons.1 hb with rfl | hb;exact ha;exact hl' b hb⟩
theorem tyw_field {H:Type} {P:Program} {d:Nat} {t ty:TypeId} {i off n:Nat} {vs:List V} {x:DataW H} (hf:fieldAt P t i = some (ty,off,n)) (h:TyW P d t vs x):∃ (d':Nat) (y:DataW H),TyW P d' ty ((vs.drop off).take n) y:=by
 obtain ⟨h,hw⟩:=h
 cases d with
 | zero => exact h.elim
 | succ d =>
   unfold fieldAt at hf
   split at hf
   ·rename_i fs ht
    simp only [TyV,ht] at h
    obtain ⟨xs,rfl,hl,_,hq⟩:=h
    cases hfi:fs[i]? with
    | none => simp [hfi] at hf
    | some f =>
      simp only [hfi,Option.map_some,Option.some.injEq,Prod.mk.injEq] at hf
      obtain ⟨rfl,rfl,rfl⟩:=hf
      have hlt:i < xs.length:=by rw [hl];exact (Array.getElem?_eq_some_iff.1 hfi).1
      refine ⟨d,xs[i],hq i f xs[i] hfi (by simp [hlt]),fun m hm => hw m ?_⟩
      simp only [DataW.weights,ht]
      exact weightsEach_mem (i:=i) (t:=f.type) (y:=xs[i]) (by simp [hfi]) (by simp [hlt]) hm
   ·cases hf
def ArgsW {H:Type} (P:Program) (d:Nat) (ts:List TypeId) (us:List V) (xs:List (DataW H)):Prop:=ArgsV P d ts us xs ∧ ∀ n ∈ DataW.weightsEach P ts xs,n ≤ reachBytes
theorem argsW_cons {H:Type} {P:Program} {d:Nat} {t:TypeId} {ts:List TypeId} {us:List V} {xs:List (DataW H)} (h:ArgsW P d (t :: ts) us xs) :
  ∃ vs x us' xs',us = argOf P t vs :: us' ∧ xs = x :: xs' ∧ TyW P d t vs x ∧ ArgsW P d ts us' xs':=by
 obtain ⟨vs,x,us',xs',rfl,rfl,h1,h2⟩:=argsV_cons h.1
 exact ⟨vs,x,us',xs',rfl,rfl,⟨h1,fun n hn => h.2 n (by simp only [DataW.weightsEach,List.mem_append];exact .inl hn)⟩,h2,fun n hn => h.2 n (by simp only [DataW.weightsEach,List.mem_append];exact .inr hn)⟩
theorem argsW_nil {H:Type} {P:Program} {d:Nat} {us:List V} {xs:List (DataW H)} (h:ArgsW P d [] us xs):us = []:=argsV_nil h.1
theorem argsV_len {H:Type} {P:Program} {d:Nat}:∀ {ts:List TypeId} {us:List V} {xs:List (DataW H)},ArgsV P d ts us xs → ts.length = xs.length
 | [],[],[],_ => rfl
 | _ :: _,_ :: _,_ :: _,h => congrArg (· + 1) (argsV_len h.2)
theorem law_contract_w {H:Type} {enc:TypeId × Value → H} {P:Program} {C:CallF} (hC:CalleeOK P C) {fn:Func} {f:FuncId} {s:ChangeSpec} {apart fresh handsOn again:Bool} {tb:TypeId} {d:Nat}
  (hl:laidOutB P = true) (hts:∀ t ∈ fn.params.toList,plainTy P d t = true ∧ P.readableRec t = true ∧ t < P.types.size) (hr:fn.resultTypes = #[tb]) (htb:P.underlying tb = some .bool) (hv:s.vars = [])
  (hs:∀ ds:List (DataW H),ds.length = fn.params.size → (s.fn H (ds ++ [])).results = [.lit (.bool true)] ∧ (s.fn H (ds ++ [])).args = ds ∧ (s.fn H (ds ++ [])).vars = [])
  {W:World} {base:Nat} {args:Array Value} {ds gs:List (DataW H)} {before:List MemPlace} {us:List TypeId}
  (law:∀ us,ArgsW P d fn.params.toList us ds → ∃ G',C f us [] = some (.bool true,G'))
  (hval:∀ (j:Nat) t v,fn.params[j]? = some t → args[j]? = some v → Value.okWide P W .any base t v) (hW:DataW.Whole enc P fn.params.toList s.vars apart W args.toList ds gs before)
  (hq:(DataW.weightsEach P (fn.params.toList ++ us) (ds ++ gs)).all (· ≤ reachBytes) = true) :
  Calls P f args W fun e W' => ∃ v,e = .returned v ∧ s.post enc P fn apart fresh handsOn again W args v W' :=
 law_contract hC hl hts hr htb hv hs (fun vs h => law vs ⟨h,fun n hn => by
  have:=List.all_eq_true.1 hq n (weightsEach_app (argsV_len h) hn)
  simpa using this⟩) hval hW
end Go.Vm
