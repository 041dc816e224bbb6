/- The value machine, 23: walking what sorts and compacts, and what a caller owns. -/
import Derived.Test.YtfjdfnegookkcaaGreatVmM
namespace Go.Vm
set_option linter.all false
def mutC (S:St) (k id:Nat) (d:Option Nat) (n:Nat):Option (List V) → Option St
 | some cs => bif Nat.ble n cs.length && Nat.ble n lim then match intsOf (cs.take n) with
   | some zs => some ({ S with objs:=(id,(mutF k zs).map (V.int .i64) ++ cs.drop n) :: S.objs }.put d (mutV k id zs))
   | none => none
   else none
 | none => none
@[simp] theorem mut_lref {S:St} {k id:Nat} {d:Option Nat} {n:Nat}:St.mut S k id d (some (.lref id 1 n)) = mutC S k id d n (look id S.objs):=by
 unfold St.mut mutC
 simp only
 cases look id S.objs with
 | none => rfl
 | some cs => simp only [beq_self_eq_true,Bool.true_and];rfl
theorem intsOf_icells:∀ zs:List Int,intsOf (icells zs) = some zs
 | [] => rfl
 | z :: zs => by
   show (match intsOf (icells zs) with | some zs => some (z :: zs) | none => none) = _
   rw [intsOf_icells zs]
@[simp] theorem mutC_ints {S:St} {k id:Nat} {d:Option Nat} {n:Nat} {zs:List Int} (h:n = zs.length) (hl:n ≤ 4294967296):mutC S k id d n (some (icells zs)) = some ({ S with objs:=(id,icells (mutF k zs)) :: S.objs }.put d (mutV k id zs)):=by
 subst h
 have h1:(icells zs).take zs.length = icells zs:=List.take_of_length_le (by simp)
 have h2:(icells zs).drop zs.length = []:=List.drop_of_length_le (by simp)
 have h3:Nat.ble zs.length lim = true:=Nat.ble_eq_true_of_le hl
 simp only [mutC,h1,h2,intsOf_icells,List.append_nil,h3]
 simp [icells]
@[simp] theorem mutV_sort {id:Nat} {zs:List Int}:mutV 0 id zs = .tuple []:=rfl
@[simp] theorem mutV_compact {id:Nat} {zs:List Int}:mutV 1 id zs = .lref id 1 (dedup zs).length:=rfl
theorem sc_scs:∀ {vs:List V},vs.all V.sc = true → vs.all V.scs = true ∧ vs.map strip = vs
 | [],_ => ⟨rfl,rfl⟩
 | v :: vs,h => by
   simp only [List.all_cons,Bool.and_eq_true] at h
   obtain ⟨a,b⟩:=sc_scs h.2
   have h1:v.scs = true ∧ strip v = v:=by cases v <;> simp_all [V.sc,V.scs,strip,strip0]
   simp only [List.all_cons,Bool.and_eq_true,List.map_cons,a,b,h1.1,h1.2,and_self]
theorem ownL_ints {id t:Nat} {l:List Int} {vs:List V} (hv:vs.all V.sc = true) (hl:l ≠ []):ownL id 0 (.slice (some t) 1 (l.map fun n => [V.int .i64 n]) :: vs) = some (.lref id 1 l.length :: vs,some (icells l)):=by
 have h1:(l.map fun n => [V.int .i64 n]).all (fun r => r.length == 1 && r.all V.sc) = true:=by
  simp [V.sc]
 have h2:(l.map fun n => [V.int .i64 n]).isEmpty = false:=by cases l <;> simp at hl ⊢
 simp only [ownL,h1,(sc_scs hv).1,(sc_scs hv).2,Bool.and_self,cond_true,h2,cond_false,List.length_map,icells_flat]
theorem ownL_none {id t n:Nat} {vs:List V} (hv:vs.all V.sc = true):ownL id 0 (.slice (some t) n [] :: vs) = some (.zed n :: vs,none):=by
 simp [ownL,(sc_scs hv).1,(sc_scs hv).2]
theorem ownV_ints {id t:Nat} {l:List Int} {e:Int} (hl:l ≠ []):ownV id 0 (.tuple [.slice (some t) 1 (l.map fun n => [V.int .i64 n]),i64 e]) = some (.tuple [.lref id 1 l.length,i64 e],some (icells l)):=by
 simp only [ownV]
 rw [ownL_ints (by rfl) hl]
theorem ownV_none {id t n:Nat} {e:Int}:ownV id 0 (.tuple [.slice (some t) n [],i64 e]) = some (.tuple [.zed n,i64 e],none):=rfl
theorem ints_scs {t:Nat} {l:List Int}:V.scs (.slice (some t) 1 (l.map fun n => [V.int .i64 n])) = true:=by simp [V.scs,V.sc]
theorem ownV_two {id t u:Nat} {l m:List Int} (hl:l ≠ []):ownV id 0 (.tuple [.slice (some t) 1 (l.map fun n => [V.int .i64 n]),.slice (some u) 1 (m.map fun n => [V.int .i64 n])]) =
  some (.tuple [.lref id 1 l.length,.slice none 1 (m.map fun n => [V.int .i64 n])],some (icells l)):=by
 have h1:(l.map fun n => [V.int .i64 n]).all (fun r => r.length == 1 && r.all V.sc) = true:=by simp [V.sc]
 have h2:(l.map fun n => [V.int .i64 n]).isEmpty = false:=by cases l <;> simp at hl ⊢
 simp only [ownV,ownL,h1,List.all_cons,ints_scs,List.all_nil,Bool.and_self,cond_true,h2,cond_false,List.length_map,icells_flat]
 rfl
theorem ownV_two0 {id t u n:Nat} {m:List Int}:ownV id 0 (.tuple [.slice (some t) n [],.slice (some u) 1 (m.map fun n => [V.int .i64 n])]) =
  some (.tuple [.zed n,.slice none 1 (m.map fun n => [V.int .i64 n])],none):=by
 simp only [ownV,ownL,List.all_nil,List.all_cons,ints_scs,Bool.and_self,cond_true,List.isEmpty_nil]
 rfl
def lpk (L:CallF) (keep:Keep) (a:VC) (k:Post):Post:=fun e T => match e with
 | .normal => go L (.loop [] keep a) T k
 | .exit i => k (.exit i) T
 | .ret => k .ret T
@[simp] theorem lpk_normal {L:CallF} {keep:Keep} {a:VC} {k:Post} {T:St}:lpk L keep a k .normal T = go L (.loop [] keep a) T k:=rfl
@[simp] theorem lpk_exit {L:CallF} {keep:Keep} {a:VC} {k:Post} {T:St} {i:Nat}:lpk L keep a k (.exit i) T = k (.exit i) T:=rfl
@[simp] theorem lpk_ret {L:CallF} {keep:Keep} {a:VC} {k:Post} {T:St}:lpk L keep a k .ret T = k .ret T:=rfl
theorem go_unroll {L:CallF} {gh:List Ghost} {keep:Keep} {a:VC} {S:St} {k:Post}:go L (.loop gh keep a) S k = bnd (ghosts gh S) fun S => go L a (S.keep keep) (lpk L keep a k):=by
 apply propext
 constructor
 ·rintro ⟨n,e,T,h,hk⟩
  simp only [VC.run] at h
  cases hg:ghosts gh S with
  | none => simp [hg] at h
  | some S1 =>
    rw [hg] at h
    simp only at h
    refine ⟨S1,rfl,?_⟩
    cases n with
    | zero => simp [iter] at h
    | succ n =>
      simp only [iter] at h
      cases hb:VC.run L (n + 1) a (S1.keep keep) with
      | none => rw [hb] at h;cases h
      | some y =>
        rw [hb] at h
        obtain ⟨e1,S2⟩:=y
        refine ⟨n + 1,e1,S2,hb,?_⟩
        cases e1 with
        | normal =>
          simp only at h
          refine ⟨n + 1,e,T,?_,hk⟩
          simp only [VC.run,ghosts]
          exact iter_up (fun _ _ h => h) (Nat.le_succ n) h
        | exit i => cases h;exact hk
        | ret => cases h;exact hk
 ·rintro ⟨S1,hg,n,e1,S2,hb,hk⟩
  cases e1 with
  | normal =>
    obtain ⟨m,e,T,h,hk⟩:=hk
    simp only [VC.run,ghosts] at h
    refine ⟨n + m + 1,e,T,?_,hk⟩
    simp only [VC.run,hg,iter]
    rw [vc_more (by omega) hb]
    exact iter_up (fun _ _ h => vc_more (by omega) h) (by omega) h
  | exit i =>
    refine ⟨n + 1,_,_,?_,hk⟩
    simp only [VC.run,hg,iter]
    rw [vc_more (by omega) hb]
  | ret =>
    refine ⟨n + 1,_,_,?_,hk⟩
    simp only [VC.run,hg,iter]
    rw [vc_more (by omega) hb]
@[simp high] theorem opk_g_arr {L:CallF} {d g m z:Nat} {x i:Opd} {w:Bool} {os:List VOp} {keep:Keep} {k:Post} {S:St} :
  opk L (⟨some d,.iaddr (some m) z x i,some (g,w)⟩ :: os) keep k S = gcnd w (look g S.env) (opk L (⟨some d,.iaddr (some m) z x i,none⟩ :: os) keep k S) (opk L os keep k (S.put (some d) .undef)):=by
 rw [opk_guard,opk_guard]
 simp only [VOp.run]
 rcases look g S.env with _ | v
 ·simp [bnd,gcnd]
 ·cases v with
  | bool b => simp only [gcnd];cases b == w <;> simp
  | undef => simp [gcnd]
  | _ => simp [bnd,gcnd]
abbrev z0:V:=.int .i64 0
abbrev zc (n:Int):Opd:=.c (.int .i64 n)
abbrev zo (d:Nat) (o:VO):VOp:=⟨some d,o,none⟩
abbrev zn (o:VO):VOp:=⟨none,o,none⟩
abbrev zq (d g:Nat) (w:Bool) (o:VO):VOp:=⟨some d,o,some (g,w)⟩
abbrev zm (d s:Nat):VOp:=⟨some d,.mv (.t s),none⟩
abbrev zk (d s:Nat):VOp:=⟨some d,.nilchk (.t s),none⟩
abbrev zf (d k s:Nat):VOp:=⟨some d,.faddr k (.t s),none⟩
abbrev zg (d s:Nat):VOp:=⟨some d,.load .glob none (.t s),none⟩
abbrev zi (d s:Nat):VOp:=⟨some d,.load .imm none (.t s),none⟩
abbrev zj (d l s:Nat):VOp:=⟨some d,.load (.loc l) none (.t s),none⟩
abbrev zs (d l n s:Nat):VOp:=⟨some d,.load (.loc l) (some n) (.t s),none⟩
abbrev za (d n a b:Nat):VOp:=⟨some d,.iaddr none n (.t a) (.t b),none⟩
abbrev ze (d a k:Nat):VOp:=⟨some d,.ext (.t a) k,none⟩
abbrev zl (d a:Nat):VOp:=⟨some d,.len (.t a),none⟩
abbrev zr (ops:List VOp) (keep:Keep):VC:=.region [] [] ops keep
end Go.Vm
