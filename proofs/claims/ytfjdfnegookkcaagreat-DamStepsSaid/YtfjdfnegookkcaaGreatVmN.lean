/- The value machine, 23: readings of plain types. -/
import Derived.Test.YtfjdfnegookkcaaGreatVmL
import Derived.Test.YtfjdfnegookkcaaGreatVmM
namespace Go.Vm
set_option linter.all false
open Go.ChangeShapes
theorem tyv_int {H:Type} {P:Program} {d:Nat} {t:TypeId} {k:IntKind} {vs:List V} {x:DataW H} (ht:P.underlying t = some (.int k)) (h:TyV P d t vs x) :
  ∃ n,vs = [.int k n] ∧ (Lit.int k n).wf = true:=by
 cases d with
 | zero => exact h.elim
 | succ d =>
   simp only [TyV,ht] at h
   obtain ⟨n,h1,h2,_⟩:=h
   exact ⟨n,h1,h2⟩
theorem tyv_bool {H:Type} {P:Program} {d:Nat} {t:TypeId} {vs:List V} {x:DataW H} (ht:P.underlying t = some .bool) (h:TyV P d t vs x):∃ b,vs = [.bool b]:=by
 cases d with
 | zero => exact h.elim
 | succ d =>
   simp only [TyV,ht] at h
   obtain ⟨b,h1,_⟩:=h
   exact ⟨b,h1⟩
theorem tyv_str {H:Type} {P:Program} {d:Nat} {t:TypeId} {vs:List V} {x:DataW H} (ht:P.underlying t = some .string) (h:TyV P d t vs x):∃ s,vs = [.str s]:=by
 cases d with
 | zero => exact h.elim
 | succ d =>
   simp only [TyV,ht] at h
   obtain ⟨b,h1,_⟩:=h
   exact ⟨b,h1⟩
abbrev okI (k:IntKind) (n:Int):Prop:=(Lit.int k n).wf = true
theorem tyv_slice {H:Type} {P:Program} {d:Nat} {t e:TypeId} {α:Type} (row:α → List V) (I:α → Prop) {vs:List V} {x:DataW H} (ht:P.underlying t = some (.slice e))
  (he:∀ (d:Nat) (vs:List V) (x:DataW H),TyV P d e vs x → ∃ a,vs = row a ∧ I a) (h:TyV P d t vs x):∃ l:List α,vs = [.slice none (P.cellsOf e) (l.map row)] ∧ (∀ a ∈ l,I a) ∧ l.length ≤ 9223372036854775807:=by
 cases d with
 | zero => exact h.elim
 | succ d =>
   simp only [TyV,ht] at h
   obtain ⟨es,xs,rfl,_,hmax,hlen,hq⟩:=h
   suffices hs:∀ (es:List (List V)) (xs:List (DataW H)),es.length = xs.length → (∀ (i:Nat) row y,es[i]? = some row → xs[i]? = some y → TyV P d e row y) → ∃ l:List α,es = l.map row ∧ ∀ a ∈ l,I a by
    obtain ⟨l,rfl,hl⟩:=hs es xs hlen (fun i r y h1 h2 => (hq i r y h1 h2).2)
    exact ⟨l,rfl,hl,by simpa using hmax⟩
   intro es
   induction es with
   | nil => intro xs _ _;exact ⟨[],rfl,by simp⟩
   | cons r es ih =>
     intro xs hl hr
     cases xs with
     | nil => simp at hl
     | cons y xs =>
       obtain ⟨a,rfl,ha⟩:=he d r y (hr 0 r y rfl rfl)
       obtain ⟨l,rfl,hI⟩:=ih xs (by simpa using hl) (fun i r y h1 h2 => hr (i + 1) r y (by simpa using h1) (by simpa using h2))
       exact ⟨a :: l,rfl,by simpa using ⟨ha,hI⟩⟩
theorem okI_u16 {n:Int} (h:okI .u16 n):0 ≤ n ∧ n ≤ 65535:=by
 simp [okI,Lit.wf,IntKind.min,IntKind.max,IntKind.signed,IntKind.bits] at h
 omega
theorem okI_u8 {n:Int} (h:okI .u8 n):0 ≤ n ∧ n ≤ 255:=by
 simp [okI,Lit.wf,IntKind.min,IntKind.max,IntKind.signed,IntKind.bits] at h
 omega
theorem okI_i64 {n:Int} (h:okI .i64 n):-9223372036854775808 ≤ n ∧ n ≤ 9223372036854775807:=by
 simp [okI,Lit.wf,IntKind.min,IntKind.max,IntKind.signed,IntKind.bits] at h
 omega
theorem tyv_ints {H:Type} {P:Program} {d:Nat} {t e:TypeId} {vs:List V} {x:DataW H} (ht:P.underlying t = some (.slice e)) (he:P.underlying e = some (.int .i64)) (hc:P.cellsOf e = 1) (h:TyV P d t vs x) :
  ∃ l:List Int,vs = [.slice none 1 (l.map fun n => [.int .i64 n])] ∧ (∀ n ∈ l,okI .i64 n) ∧ l.length ≤ 9223372036854775807:=by
 have:=tyv_slice (fun n:Int => [V.int .i64 n]) (fun n => okI .i64 n) ht (fun d vs x h => tyv_int he h) h
 rwa [hc] at this
theorem argOf_one {P:Program} {t:TypeId} {v:V} (h:∀ fs,P.underlying t ≠ some (.struct fs)):argOf P t [v] = v:=by
 unfold argOf
 split
 ·rename_i fs hf;exact absurd hf (h fs)
 ·rfl
def fieldAt (P:Program) (t:TypeId) (i:Nat):Option (TypeId × Nat × Nat):=match P.underlying t with
 | some (.struct fs) => (fs[i]?).map fun f => (f.type,f.offset,P.cellsOf f.type)
 | _ => none
def structAt (P:Program) (t:TypeId) (n:Nat):Bool:=match P.underlying t with
 | some (.struct _) => P.cellsOf t == n
 | _ => false
theorem tyv_field {H:Type} {P:Program} {d:Nat} {t ty:TypeId} {i off n:Nat} {vs:List V} {x:DataW H} (hf:fieldAt P t i = some (ty,off,n)) (h:TyV P d t vs x):∃ (d':Nat) (y:DataW H),TyV P d' ty ((vs.drop off).take n) y:=by
 cases d with
 | zero => exact h.elim
 | succ d =>
   unfold fieldAt at hf
   split at hf
   ·rename_i fs ht
    simp only [TyV,ht] at h
    obtain ⟨xs,rfl,hl,_,hq⟩:=h
    cases hfi:fs[i]? with
    | none => simp [hfi] at hf
    | some f =>
      simp only [hfi,Option.map_some,Option.some.injEq,Prod.mk.injEq] at hf
      obtain ⟨rfl,rfl,rfl⟩:=hf
      have hlt:i < xs.length:=by rw [hl];exact (Array.getElem?_eq_some_iff.1 hfi).1
      exact ⟨d,xs[i],hq i f _ hfi (List.getElem?_eq_getElem hlt)⟩
   ·cases hf
theorem tyv_len {H:Type} {P:Program} {d:Nat} {t:TypeId} {n:Nat} {vs:List V} {x:DataW H} (hs:structAt P t n = true) (h:TyV P d t vs x):vs.length = n:=by
 cases d with
 | zero => exact h.elim
 | succ d =>
   unfold structAt at hs
   split at hs
   ·rename_i fs ht
    simp only [TyV,ht] at h
    obtain ⟨xs,rfl,_,hl,_⟩:=h
    rw [hl];exact eq_of_beq hs
   ·cases hs
theorem argOf_struct {P:Program} {t:TypeId} {vs:List V} {n:Nat} (hs:structAt P t n = true):argOf P t vs = .agg vs:=by
 unfold structAt at hs
 unfold argOf
 split at hs
 ·rename_i fs ht;simp [ht]
 ·cases hs
theorem tyv_fint {H:Type} {P:Program} {d:Nat} {t ty:TypeId} {i off:Nat} {k:IntKind} {vs:List V} {x:DataW H} (hf:fieldAt P t i = some (ty,off,1)) (hk:P.underlying ty = some (.int k)) (h:TyV P d t vs x):∃ n,(vs.drop off).take 1 = [.int k n] ∧ okI k n:=by
 obtain ⟨d',y,h'⟩:=tyv_field hf h
 exact tyv_int hk h'
theorem argsV_cons {H:Type} {P:Program} {d:Nat} {t:TypeId} {ts:List TypeId}:∀ {us:List V} {xs:List (DataW H)},ArgsV P d (t :: ts) us xs →
  ∃ vs x us' xs',us = argOf P t vs :: us' ∧ xs = x :: xs' ∧ TyV P d t vs x ∧ ArgsV P d ts us' xs'
 | [],_,h => h.elim
 | _ :: _,[],h => h.elim
 | u :: us,x :: xs,h => by
   obtain ⟨⟨vs,rfl,h1⟩,h2⟩:=h
   exact ⟨vs,x,us,xs,rfl,rfl,h1,h2⟩
theorem argsV_nil {H:Type} {P:Program} {d:Nat}:∀ {us:List V} {xs:List (DataW H)},ArgsV P d [] us xs → us = []
 | [],_,_ => rfl
 | _ :: _,[],h => h.elim
 | _ :: _,_ :: _,h => h.elim
theorem tys {P:Program} {d:Nat} {ts:List TypeId} (h:(ts.all fun t => plainTy P d t && P.readableRec t && Nat.blt t P.types.size) = true):∀ t ∈ ts,plainTy P d t = true ∧ P.readableRec t = true ∧ t < P.types.size:=fun t ht => by
 have h1:=List.all_eq_true.1 h t ht
 simp only [Bool.and_eq_true] at h1
 exact ⟨h1.1.1,h1.1.2,by simpa using h1.2⟩
end Go.Vm
