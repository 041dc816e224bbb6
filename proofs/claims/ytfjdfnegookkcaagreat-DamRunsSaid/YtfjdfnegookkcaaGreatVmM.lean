/- The value machine, 22: weakest preconditions of the evaluator. -/
import Derived.Test.YtfjdfnegookkcaaGreatVmI
namespace Go.Vm
set_option linter.all false
def bnd {α:Type} (o:Option α) (P:α → Prop):Prop:=∃ a,o = some a ∧ P a
@[congr] theorem bnd_congr {α:Type} {o o':Option α} {P:α → Prop} (h:o = o'):bnd o P = bnd o' P:=by rw [h]
@[simp] theorem bnd_some {α:Type} {a:α} {P:α → Prop}:bnd (some a) P = P a:=by simp [bnd]
theorem bnd_of {α:Type} {o:Option α} {a:α} {P:α → Prop} (h:o = some a) (hp:P a):bnd o P:=⟨a,h,hp⟩
def cnd (o:Option V) (A B:Prop):Prop:=∃ t,o = some (.bool t) ∧ (bif t then A else B)
@[congr] theorem cnd_congr {o o':Option V} {A B:Prop} (h:o = o'):cnd o A B = cnd o' A B:=by rw [h]
@[simp] theorem cnd_true {A B:Prop}:cnd (some (.bool true)) A B = A:=by simp [cnd]
@[simp] theorem cnd_false {A B:Prop}:cnd (some (.bool false)) A B = B:=by simp [cnd]
theorem cnd_dec {p:Prop} {dp:Decidable p} {A B:Prop} (ha:p → A) (hb:¬p → B):cnd (some (.bool (decide p))) A B:=by
 by_cases h:p
 ·simpa [h] using ha h
 ·simpa [h] using hb h
theorem cnd_bool {t:Bool} {A B:Prop} (ha:t = true → A) (hb:t = false → B):cnd (some (.bool t)) A B:=by
 cases t
 ·simpa using hb rfl
 ·simpa using ha rfl
abbrev Post:=VExit → St → Prop
def go (L:CallF) (c:VC) (S:St) (k:Post):Prop:=∃ n e T,VC.run L n c S = some (e,T) ∧ k e T
@[congr] theorem go_congr {L:CallF} {c:VC} {S S':St} {k:Post} (h:S = S'):go L c S k = go L c S' k:=by rw [h]
theorem vc_more {L:CallF} {n m:Nat} (h:n ≤ m) {c:VC} {S:St} {x:VExit × St} (hr:VC.run L n c S = some x):VC.run L m c S = some x :=
 vc_up (fun _ _ _ _ h => h) h hr
theorem go.mono {L:CallF} {c:VC} {S:St} {k k':Post} (h:go L c S k) (hk:∀ e T,k e T → k' e T):go L c S k':=by
 obtain ⟨n,e,T,h1,h2⟩:=h
 exact ⟨n,e,T,h1,hk _ _ h2⟩
def sq (L:CallF) (b:VC) (k:Post):Post:=fun e T => match e with
 | .normal => go L b T k
 | .exit i => k (.exit i) T
 | .ret => k .ret T
@[simp] theorem sq_normal {L:CallF} {b:VC} {k:Post} {T:St}:sq L b k .normal T = go L b T k:=rfl
@[simp] theorem sq_exit {L:CallF} {b:VC} {k:Post} {i:Nat} {T:St}:sq L b k (.exit i) T = k (.exit i) T:=rfl
@[simp] theorem sq_ret {L:CallF} {b:VC} {k:Post} {T:St}:sq L b k .ret T = k .ret T:=rfl
def bk (id:Nat) (k:Post):Post:=fun e T => match e with
 | .normal => k .normal T
 | .exit i => bif i == id then k .normal T else k (.exit i) T
 | .ret => k .ret T
@[simp] theorem bk_normal {id:Nat} {k:Post} {T:St}:bk id k .normal T = k .normal T:=rfl
def bkx (b:Bool) (k:Post) (i:Nat) (T:St):Prop:=bif b then k .normal T else k (.exit i) T
@[congr] theorem bkx_congr {b b':Bool} {k:Post} {i:Nat} {T:St} (h:b = b'):bkx b k i T = bkx b' k i T:=by rw [h]
@[simp] theorem bkx_true {k:Post} {i:Nat} {T:St}:bkx true k i T = k .normal T:=rfl
@[simp] theorem bkx_false {k:Post} {i:Nat} {T:St}:bkx false k i T = k (.exit i) T:=rfl
@[simp] theorem bk_exit {id:Nat} {k:Post} {i:Nat} {T:St}:bk id k (.exit i) T = bkx (i == id) k i T:=rfl
@[simp] theorem bk_ret {id:Nat} {k:Post} {T:St}:bk id k .ret T = k .ret T:=rfl
def opk (L:CallF) (os:List VOp) (keep:Keep) (k:Post):St → Prop:=fun S => ∃ T,runOps L os S = some T ∧ k .normal (T.keep keep)
@[congr] theorem opk_congr {L:CallF} {os:List VOp} {keep:Keep} {k:Post} {S S':St} (h:S = S'):opk L os keep k S = opk L os keep k S':=by rw [h]
@[simp] theorem opk_nil {L:CallF} {keep:Keep} {k:Post} {S:St}:opk L [] keep k S = k .normal (S.keep keep):=by simp [opk,runOps]
@[simp] theorem opk_cons {L:CallF} {d:Option Nat} {op:VO} {os:List VOp} {keep:Keep} {k:Post} {S:St}:opk L (⟨d,op,none⟩ :: os) keep k S = bnd (op.run L d S) (opk L os keep k):=by
 unfold opk bnd
 simp only [runOps,VOp.run]
 cases op.run L d S <;> simp
theorem opk_guard {L:CallF} {o:VOp} {os:List VOp} {keep:Keep} {k:Post} {S:St}:opk L (o :: os) keep k S = bnd (o.run L S) (opk L os keep k):=by
 unfold opk bnd
 simp only [runOps]
 cases o.run L S <;> simp
def gif {α:Type} (c:Bool) (a b:α):α:=bif c then a else b
@[congr] theorem gif_congr {α:Type} {c c':Bool} {a a' b b':α} (hc:c = c') (ha:c' = true → a = a') (hb:c' = false → b = b'):gif c a b = gif c' a' b':=by
 subst hc
 cases c
 ·exact hb rfl
 ·exact ha rfl
@[congr] theorem gif_congr_dec {α:Type} {p q:Prop} {dp:Decidable p} [dq:Decidable q] {a a' b b':α} (hc:p = q) (ha:q → a = a') (hb:¬q → b = b'):@gif α (@decide p dp) a b = gif (decide q) a' b':=by
 subst hc
 by_cases h:p
 ·simp [gif,h,ha h]
 ·simp [gif,h,hb h]
theorem int_beq {a b:Int}:(a == b) = decide (a = b):=by by_cases h:a = b <;> simp [h]
theorem int_bne {a b:Int}:(a != b) = !decide (a = b):=by by_cases h:a = b <;> simp [h]
theorem cond_yes {α:Type} {p:Prop} {dp:Decidable p} {a b:α} (h:p):(bif decide p then a else b) = a:=by simp [h]
@[simp] theorem dec_lim {k:Int}:decide (k ≤ (lim:Int)) = decide (k ≤ 4294967296):=rfl
@[simp] theorem dec_limN {k:Nat}:decide (k ≤ lim) = decide (k ≤ 4294967296):=rfl
theorem cond_yes2 {α:Type} {p q:Prop} {dp:Decidable p} {dq:Decidable q} {a b:α} (h:p ∧ q):(bif decide p && decide q then a else b) = a:=by simp [h.1,h.2]
theorem nat_beq {a b:Nat}:(a == b) = decide (a = b):=by by_cases h:a = b <;> simp [h]
theorem cond_no {α:Type} {p:Prop} {dp:Decidable p} {a b:α} (h:¬p):(bif decide p then a else b) = b:=by simp [h]
@[simp] theorem gif_true {α:Type} {a b:α}:gif true a b = a:=rfl
@[simp] theorem gif_false {α:Type} {a b:α}:gif false a b = b:=rfl
@[simp] theorem gif_not {α:Type} {c:Bool} {a b:α}:gif (!c) a b = gif c b a:=by cases c <;> rfl
@[simp] theorem gif_some {α:Type} {c:Bool} {a b:α}:gif c (some a) (some b) = some (gif c a b):=by cases c <;> rfl
@[simp] theorem gif_vbool {c a b:Bool}:gif c (V.bool a) (V.bool b) = V.bool (bif c then a else b):=by cases c <;> rfl
def gval (o:Option V) (w:Bool) (x:Option V):Option V :=
 match o with
 | some (.bool b) => bif b == w then x else some .undef
 | some .undef => some .undef
 | _ => none
@[simp] theorem gval_bool_t {b:Bool} {x:Option V}:gval (some (.bool b)) true x = gif b x (some .undef):=by cases b <;> rfl
@[simp] theorem gval_bool_f {b:Bool} {x:Option V}:gval (some (.bool b)) false x = gif b (some .undef) x:=by cases b <;> rfl
@[simp] theorem gval_undef {w:Bool} {x:Option V}:gval (some .undef) w x = some .undef:=rfl
@[simp] theorem gval_gif {c b w:Bool} {v:V} {x:Option V}:gval (some (gif c (.bool b) v)) w x = gif c (gval (some (.bool b)) w x) (gval (some v) w x):=by cases c <;> rfl
@[simp] theorem gval_gif' {c b w:Bool} {v:V} {x:Option V}:gval (some (gif c v (.bool b))) w x = gif c (gval (some v) w x) (gval (some (.bool b)) w x):=by cases c <;> rfl
def pickv (t:Option V) (x y:Option V):Option V:=match t with
 | some (.bool b) => gif b x y
 | _ => none
@[simp] theorem pickv_bool {b:Bool} {x y:Option V}:pickv (some (.bool b)) x y = gif b x y:=rfl
def putK (L:CallF) (d:Nat) (S:St) (os:List VOp) (keep:Keep) (k:Post):V → Prop:=fun v => opk L os keep k (S.put (some d) v)
@[simp] theorem putK_eq {L:CallF} {d:Nat} {S:St} {os:List VOp} {keep:Keep} {k:Post} {v:V}:putK L d S os keep k v = opk L os keep k { S with env:=(d,v) :: S.env }:=rfl
theorem bnd_guard {L:CallF} {d g:Nat} {w:Bool} {op:VO} {x:Option V} {S:St} {os:List VOp} {keep:Keep} {k:Post} (hrun:op.run L (some d) S = x.map (S.put (some d))) :
  bnd (VOp.run L ⟨some d,op,some (g,w)⟩ S) (opk L os keep k) = bnd (gval (look g S.env) w x) (putK L d S os keep k):=by
 unfold VOp.run gval
 simp only
 cases look g S.env with
 | none => simp [bnd]
 | some v =>
   cases v with
   | bool b =>
     simp only [hrun]
     cases b == w with
     | true => cases x <;> simp [bnd,putK]
     | false => simp [bnd,putK]
   | undef => simp [bnd,putK]
   | _ => simp [bnd]
@[simp high] theorem opk_pick {L:CallF} {d:Nat} {c a b:Opd} {os:List VOp} {keep:Keep} {k:Post} {S:St} :
  opk L (⟨some d,.pick c a b,none⟩ :: os) keep k S = bnd (pickv (S.ev c) (S.ev a) (S.ev b)) (putK L d S os keep k):=by
 rw [opk_guard]
 simp only [VOp.run,VO.run]
 rcases S.ev c with _ | v
 ·simp [bnd,pickv]
 ·cases v with
  | bool t =>
    cases t
    ·simp only [pickv,gif,cond_false]
     cases S.ev b <;> simp [bnd,putK]
    ·simp only [pickv,gif,cond_true]
     cases S.ev a <;> simp [bnd,putK]
  | _ => simp [bnd,pickv]
@[simp] theorem opk_g_mv {L:CallF} {d g:Nat} {w:Bool} {x:Opd} {os:List VOp} {keep:Keep} {k:Post} {S:St} :
  opk L (⟨some d,.mv x,some (g,w)⟩ :: os) keep k S = bnd (gval (look g S.env) w (S.ev x)) (putK L d S os keep k):=by
 rw [opk_guard]
 refine bnd_guard ?_
 simp only [VO.run]
 repeat' split
 all_goals (first | rfl | simp_all [St.put])
@[simp] theorem opk_g_pick {L:CallF} {d g:Nat} {w:Bool} {c a b:Opd} {os:List VOp} {keep:Keep} {k:Post} {S:St} :
  opk L (⟨some d,.pick c a b,some (g,w)⟩ :: os) keep k S = bnd (gval (look g S.env) w (pickv (S.ev c) (S.ev a) (S.ev b))) (putK L d S os keep k):=by
 rw [opk_guard]
 refine bnd_guard ?_
 simp only [VO.run]
 rcases S.ev c with _ | v
 ·rfl
 ·cases v with
  | bool t =>
    cases t
    ·simp only [pickv,gif,cond_false]
     cases S.ev b <;> rfl
    ·simp only [pickv,gif,cond_true]
     cases S.ev a <;> rfl
  | _ => rfl
@[simp] theorem opk_g_build {L:CallF} {d g:Nat} {w:Bool} {z:List V} {ps:List (Nat × Nat × Opd)} {os:List VOp} {keep:Keep} {k:Post} {S:St} :
  opk L (⟨some d,.build z ps,some (g,w)⟩ :: os) keep k S = bnd (gval (look g S.env) w (match fillParts S ps z with | some cs => some (.agg cs) | none => none)) (putK L d S os keep k):=by
 rw [opk_guard]
 refine bnd_guard ?_
 simp only [VO.run]
 repeat' split
 all_goals (first | rfl | simp_all [St.put])
@[simp] theorem opk_g_load {L:CallF} {d g:Nat} {w:Bool} {r:Root} {z:Option Nat} {p:Opd} {os:List VOp} {keep:Keep} {k:Post} {S:St} :
  opk L (⟨some d,.load r z p,some (g,w)⟩ :: os) keep k S = bnd (gval (look g S.env) w (match S.ev p with | some v => bif r.fits v then (match S.cellsAt v with | some (cs,off) => (loadAt z cs off).map (loadG r) | none => none) else none | none => none)) (putK L d S os keep k):=by
 rw [opk_guard]
 refine bnd_guard ?_
 simp only [VO.run]
 rcases S.ev p with _ | v
 ·rfl
 ·simp only
  cases r.fits v with
  | false => rfl
  | true =>
    rcases S.cellsAt v with _ | ⟨cs,off⟩
    ·rfl
    ·simp only [cond_true]
     rcases loadAt z cs off with _ | u <;> rfl
@[simp] theorem opk_g_nilchk {L:CallF} {d g:Nat} {w:Bool} {x:Opd} {os:List VOp} {keep:Keep} {k:Post} {S:St} :
  opk L (⟨some d,.nilchk x,some (g,w)⟩ :: os) keep k S = bnd (gval (look g S.env) w (match S.ev x with | some (.lptr i o) => some (.lptr i o) | some (.gptr i o) => some (.gptr i o) | some (.eptr r o) => some (.eptr r o) | _ => none)) (putK L d S os keep k):=by
 rw [opk_guard]
 refine bnd_guard ?_
 simp only [VO.run]
 repeat' split
 all_goals (first | rfl | simp_all [St.put])
@[simp] theorem opk_g_bin {L:CallF} {d g:Nat} {w:Bool} {o:BinOp} {x y:Opd} {os:List VOp} {keep:Keep} {k:Post} {S:St} :
  opk L (⟨some d,.bin o x y,some (g,w)⟩ :: os) keep k S = bnd (gval (look g S.env) w (match S.ev x,S.ev y with | some a,some b => V.bin o a b | _,_ => none)) (putK L d S os keep k):=by
 rw [opk_guard]
 refine bnd_guard ?_
 simp only [VO.run]
 repeat' split
 all_goals (first | rfl | simp_all [St.put])
@[simp] theorem opk_g_beq {L:CallF} {d g:Nat} {w:Bool} {n:Bool} {x y:Opd} {os:List VOp} {keep:Keep} {k:Post} {S:St} :
  opk L (⟨some d,.beq n x y,some (g,w)⟩ :: os) keep k S = bnd (gval (look g S.env) w (match S.ev x,S.ev y with | some (.bool a),some (.bool b) => some (.bool (bif n then a != b else a == b)) | _,_ => none)) (putK L d S os keep k):=by
 rw [opk_guard]
 refine bnd_guard ?_
 simp only [VO.run]
 repeat' split
 all_goals (first | rfl | simp_all [St.put])
@[simp] theorem opk_g_aeq {L:CallF} {d g:Nat} {w:Bool} {n:Bool} {ks:List Nat} {x y:Opd} {os:List VOp} {keep:Keep} {k:Post} {S:St} :
  opk L (⟨some d,.aeq n ks x y,some (g,w)⟩ :: os) keep k S = bnd (gval (look g S.env) w (match S.ev x,S.ev y with | some a,some b => V.aeq n ks a b | _,_ => none)) (putK L d S os keep k):=by
 rw [opk_guard]
 refine bnd_guard ?_
 simp only [VO.run]
 repeat' split
 all_goals (first | rfl | simp_all [St.put])
@[simp] theorem opk_g_un {L:CallF} {d g:Nat} {w:Bool} {o:UnOp} {x:Opd} {os:List VOp} {keep:Keep} {k:Post} {S:St} :
  opk L (⟨some d,.un o x,some (g,w)⟩ :: os) keep k S = bnd (gval (look g S.env) w (match S.ev x with | some a => V.un o a | none => none)) (putK L d S os keep k):=by
 rw [opk_guard]
 refine bnd_guard ?_
 simp only [VO.run]
 repeat' split
 all_goals (first | rfl | simp_all [St.put])
@[simp] theorem opk_g_conv {L:CallF} {d g:Nat} {w:Bool} {kk:IntKind} {x:Opd} {os:List VOp} {keep:Keep} {k:Post} {S:St} :
  opk L (⟨some d,.conv kk x,some (g,w)⟩ :: os) keep k S = bnd (gval (look g S.env) w (match S.ev x with | some (.int _ n) => some (.int kk (kk.wrap n)) | _ => none)) (putK L d S os keep k):=by
 rw [opk_guard]
 refine bnd_guard ?_
 simp only [VO.run]
 repeat' split
 all_goals (first | rfl | simp_all [St.put])
@[simp] theorem opk_g_faddr {L:CallF} {d g:Nat} {w:Bool} {n:Nat} {x:Opd} {os:List VOp} {keep:Keep} {k:Post} {S:St} :
  opk L (⟨some d,.faddr n x,some (g,w)⟩ :: os) keep k S = bnd (gval (look g S.env) w (match S.ev x with | some (.lptr i o) => some (.lptr i (o + n)) | some (.gptr i o) => some (.gptr i (o + n)) | some (.eptr r o) => some (.eptr r (o + n)) | _ => none)) (putK L d S os keep k):=by
 rw [opk_guard]
 refine bnd_guard ?_
 simp only [VO.run]
 repeat' split
 all_goals (first | rfl | simp_all [St.put])
@[simp] theorem opk_g_len {L:CallF} {d g:Nat} {w:Bool} {x:Opd} {os:List VOp} {keep:Keep} {k:Post} {S:St} :
  opk L (⟨some d,.len x,some (g,w)⟩ :: os) keep k S = bnd (gval (look g S.env) w (match S.ev x with | some .nils => some (.int .i64 0) | some (.zed _) => some (.int .i64 0) | some (.nonil _) => some (.int .i64 0) | some (.slice _ _ es) => some (.int .i64 es.length) | some (.lref _ _ n) => some (.int .i64 n) | _ => none)) (putK L d S os keep k):=by
 rw [opk_guard]
 refine bnd_guard ?_
 simp only [VO.run]
 repeat' split
 all_goals (first | rfl | simp_all [St.put])
@[simp] theorem opk_g_slen {L:CallF} {d g:Nat} {w:Bool} {x:Opd} {os:List VOp} {keep:Keep} {k:Post} {S:St} :
  opk L (⟨some d,.slen x,some (g,w)⟩ :: os) keep k S = bnd (gval (look g S.env) w (match S.ev x with | some (.str s) => some (.int .i64 s.length) | _ => none)) (putK L d S os keep k):=by
 rw [opk_guard]
 refine bnd_guard ?_
 simp only [VO.run]
 repeat' split
 all_goals (first | rfl | simp_all [St.put])
@[simp] theorem opk_g_ext {L:CallF} {d g:Nat} {w:Bool} {x:Opd} {i:Nat} {os:List VOp} {keep:Keep} {k:Post} {S:St} :
  opk L (⟨some d,.ext x i,some (g,w)⟩ :: os) keep k S = bnd (gval (look g S.env) w (match S.ev x with | some (.tuple vs) => vs[i]? | _ => none)) (putK L d S os keep k):=by
 rw [opk_guard]
 refine bnd_guard ?_
 simp only [VO.run]
 repeat' split
 all_goals (first | rfl | simp_all [St.put])
@[simp] theorem opk_g_field {L:CallF} {d g:Nat} {w:Bool} {n:Nat} {z:Option Nat} {x:Opd} {os:List VOp} {keep:Keep} {k:Post} {S:St} :
  opk L (⟨some d,.field n z x,some (g,w)⟩ :: os) keep k S = bnd (gval (look g S.env) w (match S.ev x with | some (.agg cs) => loadAt z cs n | _ => none)) (putK L d S os keep k):=by
 rw [opk_guard]
 refine bnd_guard ?_
 simp only [VO.run]
 repeat' split
 all_goals (first | rfl | simp_all [St.put])
@[simp] theorem opk_g_mm {L:CallF} {d g:Nat} {w:Bool} {m:Bool} {x y:Opd} {os:List VOp} {keep:Keep} {k:Post} {S:St} :
  opk L (⟨some d,.mm m x y,some (g,w)⟩ :: os) keep k S = bnd (gval (look g S.env) w (match S.ev x,S.ev y with | some (.int k a),some (.int _ b) => some (.int k (bif m then max a b else min a b)) | _,_ => none)) (putK L d S os keep k):=by
 rw [opk_guard]
 refine bnd_guard ?_
 simp only [VO.run]
 rcases S.ev x with _ | a
 ·rfl
 ·rcases S.ev y with _ | b
  ·cases a <;> rfl
  ·cases a <;> cases b <;> rfl
@[simp] theorem opk_g_mm3 {L:CallF} {d g:Nat} {w:Bool} {m:Bool} {x y z:Opd} {os:List VOp} {keep:Keep} {k:Post} {S:St} :
  opk L (⟨some d,.mm3 m x y z,some (g,w)⟩ :: os) keep k S = bnd (gval (look g S.env) w (match S.ev x,S.ev y,S.ev z with | some (.int k a),some (.int _ b),some (.int _ c) => some (.int k (bif m then max (max a b) c else min (min a b) c)) | _,_,_ => none)) (putK L d S os keep k):=by
 rw [opk_guard]
 refine bnd_guard ?_
 simp only [VO.run]
 rcases S.ev x with _ | a
 ·rfl
 ·rcases S.ev y with _ | b
  ·cases a <;> rfl
  ·rcases S.ev z with _ | c
   ·cases a <;> cases b <;> rfl
   ·cases a <;> cases b <;> cases c <;> rfl
@[simp] theorem opk_g_idx {L:CallF} {d g:Nat} {w:Bool} {n z:Nat} {a:Bool} {x i:Opd} {os:List VOp} {keep:Keep} {k:Post} {S:St} :
  opk L (⟨some d,.idx n z a x i,some (g,w)⟩ :: os) keep k S = bnd (gval (look g S.env) w (match S.ev x,S.ev i with | some (.agg cs),some (.int _ k) => bif decide (0 ≤ k) && decide (k < n) then loadAt (bif a then some z else none) cs (k.toNat * z) else none | _,_ => none)) (putK L d S os keep k):=by
 rw [opk_guard]
 refine bnd_guard ?_
 simp only [VO.run]
 rcases S.ev x with _ | v
 ·rfl
 ·rcases S.ev i with _ | j
  ·cases v <;> rfl
  ·cases v with
   | agg cs =>
     cases j with
     | int kk m =>
       simp only
       cases (decide (0 ≤ m) && decide (m < n)) with
       | false => rfl
       | true =>
         simp only [cond_true]
         rcases loadAt (bif a then some z else none) cs (m.toNat * z) with _ | u <;> rfl
     | _ => rfl
   | _ => cases j <;> rfl
@[simp] theorem opk_g_iaddr {L:CallF} {d g:Nat} {w:Bool} {n:Nat} {x i:Opd} {os:List VOp} {keep:Keep} {k:Post} {S:St} :
  opk L (⟨some d,.iaddr none n x i,some (g,w)⟩ :: os) keep k S = bnd (gval (look g S.env) w (match S.ev x,S.ev i with
   | some (.slice _ m es),some (.int _ k) => bif decide (0 ≤ k) && (m == n) then (match es[k.toNat]? with | some r => some (.eptr r 0) | none => none) else none
   | some (.lref id off ln),some (.int _ k) => bif decide (0 ≤ k) && decide (k < ln) && (off == n) then some (.lptr id (k.toNat * n)) else none
   | _,_ => none)) (putK L d S os keep k):=by
 rw [opk_guard]
 refine bnd_guard ?_
 simp only [VO.run]
 rcases S.ev x with _ | v
 ·rfl
 ·rcases S.ev i with _ | j
  ·cases v <;> rfl
  ·cases v with
   | slice t m es =>
     cases j with
     | int kk q =>
       simp only
       cases (decide (0 ≤ q) && (m == n)) with
       | false => rfl
       | true =>
         simp only [cond_true]
         rcases es[q.toNat]? with _ | u <;> rfl
     | _ => rfl
   | lref id off ln =>
     cases j with
     | int kk q =>
       simp only
       cases (decide (0 ≤ q) && decide (q < ln) && (off == n)) with
       | false => rfl
       | true => rfl
     | _ => rfl
   | _ => cases j <;> rfl
def nth {α:Type} [Inhabited α] (l:List α) (i:Nat):α:=l.getD i default
theorem get_nth {α:Type} [Inhabited α] {l:List α} {i:Nat} (h:i < l.length):l[i]? = some (nth l i):=by
 simp [nth,List.getD,h]
theorem get_int {l:List Int} {i:Nat} (h:i < l.length):l[i]? = some (nth l i):=get_nth h
theorem nth_of {α:Type} [Inhabited α] {l:List α} {i:Nat} {a:α} (h:l[i]? = some a):nth l i = a:=by
 simp [nth,List.getD,h]
def lk {α:Type} (b:Bool) (v:α) (s:Nat) (r:List (Nat × α)):Option α:=bif b then some v else look s r
@[simp] theorem look_lk {α:Type} {s k:Nat} {v:α} {r:List (Nat × α)}:look s ((k,v) :: r) = lk (k == s) v s r:=rfl
@[simp] theorem look_lk0 {α:Type} {s:Nat}:look s ([]:List (Nat × α)) = none:=rfl
@[simp] theorem lk_true {α:Type} {s:Nat} {v:α} {r:List (Nat × α)}:lk true v s r = some v:=rfl
@[simp] theorem lk_false {α:Type} {s:Nat} {v:α} {r:List (Nat × α)}:lk false v s r = look s r:=rfl
def drp {α:Type} (d:Nat) (l:List (Nat × α)):List (Nat × α):=l.filter fun p => !(p.1 == d)
def drk {α:Type} (b:Bool) (k:Nat) (v:α) (r:List (Nat × α)):List (Nat × α):=bif b then r else (k,v) :: r
@[simp] theorem drk_true {α:Type} {k:Nat} {v:α} {r:List (Nat × α)}:drk true k v r = r:=rfl
@[simp] theorem drk_false {α:Type} {k:Nat} {v:α} {r:List (Nat × α)}:drk false k v r = (k,v) :: r:=rfl
@[simp] theorem drp_nil {α:Type} {d:Nat}:drp d ([]:List (Nat × α)) = []:=rfl
@[simp] theorem drp_cons {α:Type} {d k:Nat} {v:α} {r:List (Nat × α)}:drp d ((k,v) :: r) = drk (k == d) k v (drp d r):=by
 unfold drp drk
 cases h:k == d <;> simp [List.filter,h]
@[simp] theorem filter_drp {α:Type} {d:Nat} {l:List (Nat × α)}:(l.filter fun p => !(p.1 == d)) = drp d l:=rfl
@[simp] theorem clean_nil {S:St}:S.clean [] = some S:=rfl
@[simp] theorem clean_cons {S:St} {d:Nat} {ds:List Nat}:S.clean (d :: ds) = bif ((drp d S.env).all fun p => !p.2.men d) && ((drp d S.objs).all fun p => p.2.all fun v => !v.men0 d) then
  St.clean { env:=drp d S.env,objs:=drp d S.objs,toks:=drp d S.toks,glob:=S.glob } ds else none:=rfl
theorem ex2 {α β:Type} {a:α} {b:β} {k:α → β → Prop}:(∃ e T,(a = e ∧ b = T) ∧ k e T) ↔ k a b :=
 ⟨fun ⟨_,_,⟨h,h'⟩,hk⟩ => by subst h;subst h';exact hk,fun h => ⟨_,_,⟨rfl,rfl⟩,h⟩⟩
def clk (L:CallF) (ids:List Nat) (os:List VOp) (keep:Keep) (k:Post):St → Prop:=fun S => bnd (S.clean ids) (opk L os keep k)
@[simp] theorem clk_eq {L:CallF} {ids:List Nat} {os:List VOp} {keep:Keep} {k:Post} {S:St}:clk L ids os keep k S = bnd (S.clean ids) (opk L os keep k):=rfl
@[simp] theorem go_skip {L:CallF} {S:St} {k:Post}:go L .skip S k = k .normal S:=by simp [go,VC.run,ex2]
@[simp] theorem go_exit {L:CallF} {S:St} {k:Post} {i:Nat}:go L (.exit i) S k = k (.exit i) S:=by simp [go,VC.run,ex2]
@[simp] theorem go_ret {L:CallF} {S:St} {k:Post}:go L .ret S k = k .ret S:=by simp [go,VC.run,ex2]
@[simp] theorem go_region {L:CallF} {gh:List Ghost} {ids:List Nat} {os:List VOp} {keep:Keep} {S:St} {k:Post} :
  go L (.region gh ids os keep) S k = bnd (ghosts gh S) (clk L ids os keep k):=by
 unfold go bnd
 simp only [VC.run,clk_eq]
 cases ghosts gh S with
 | none => simp
 | some S1 =>
   simp only [Option.some.injEq,exists_eq_left',bnd]
   cases S1.clean ids with
   | none => simp
   | some S2 =>
     simp only [Option.some.injEq,exists_eq_left',opk]
     cases runOps L os S2 with
     | none => simp
     | some S3 => simp [ex2]
@[simp] theorem go_seq {L:CallF} {a b:VC} {S:St} {k:Post}:go L (.seq a b) S k = go L a S (sq L b k):=by
 refine propext ⟨?_,?_⟩
 ·rintro ⟨n,e,T,h,hk⟩
  simp only [VC.run] at h
  split at h
  ·rename_i S' h1;exact ⟨n,_,_,h1,n,_,_,h,hk⟩
  ·rename_i i S' h1;cases h;exact ⟨n,_,_,h1,hk⟩
  ·rename_i S' h1;cases h;exact ⟨n,_,_,h1,hk⟩
  ·cases h
 ·rintro ⟨n,e,T,h,hk⟩
  cases e with
  | normal =>
    obtain ⟨m,e,T',h',hk⟩:=hk
    refine ⟨n + m,e,T',?_,hk⟩
    simp only [VC.run,vc_more (Nat.le_add_right n m) h,vc_more (Nat.le_add_left m n) h']
  | exit i => exact ⟨n,_,_,by simp only [VC.run,h],hk⟩
  | ret => exact ⟨n,_,_,by simp only [VC.run,h],hk⟩
@[simp] theorem go_cond {L:CallF} {c:Opd} {a b:VC} {S:St} {k:Post}:go L (.cond c a b) S k = cnd (S.ev c) (go L a S k) (go L b S k):=by
 refine propext ⟨?_,?_⟩
 ·rintro ⟨n,e,T,h,hk⟩
  simp only [VC.run] at h
  split at h
  ·rename_i t hc
   refine ⟨t,hc,?_⟩
   cases t with
   | true => exact ⟨n,e,T,h,hk⟩
   | false => exact ⟨n,e,T,h,hk⟩
  ·cases h
 ·rintro ⟨t,hc,h⟩
  cases t with
  | true => obtain ⟨n,e,T,h,hk⟩:=h;exact ⟨n,e,T,by simp only [VC.run,hc,cond_true];exact h,hk⟩
  | false => obtain ⟨n,e,T,h,hk⟩:=h;exact ⟨n,e,T,by simp only [VC.run,hc,cond_false];exact h,hk⟩
@[simp] theorem go_block {L:CallF} {id:Nat} {a:VC} {S:St} {k:Post}:go L (.block id a) S k = go L a S (bk id k):=by
 refine propext ⟨?_,?_⟩
 ·rintro ⟨n,e,T,h,hk⟩
  simp only [VC.run] at h
  split at h
  ·rename_i S' h1;cases h;exact ⟨n,_,_,h1,hk⟩
  ·rename_i i S' h1
   refine ⟨n,_,_,h1,?_⟩
   cases hi:i == id with
   | true => simp only [hi,cond_true] at h;cases h;simp only [bk,hi,cond_true];exact hk
   | false => simp only [hi,cond_false] at h;cases h;simp only [bk,hi,cond_false];exact hk
  ·rename_i S' h1;cases h;exact ⟨n,_,_,h1,hk⟩
  ·cases h
 ·rintro ⟨n,e,T,h,hk⟩
  cases e with
  | normal => exact ⟨n,_,_,by simp only [VC.run,h],hk⟩
  | exit i =>
    cases hi:i == id with
    | true => simp only [bk,hi,cond_true] at hk;exact ⟨n,_,_,by simp only [VC.run,h,hi,cond_true],hk⟩
    | false => simp only [bk,hi,cond_false] at hk;exact ⟨n,_,_,by simp only [VC.run,h,hi,cond_false],hk⟩
  | ret => exact ⟨n,_,_,by simp only [VC.run,h],hk⟩
def rnd {α:Type} (keep:Keep) (st:α → St) (I:α → Prop) (mu:α → Nat) (m:Nat) (k:Post):Post:=fun e T => match e with
 | .normal => ∃ y,T.keep keep = st y ∧ I y ∧ mu y < m
 | .exit i => k (.exit i) T
 | .ret => k .ret T
@[simp] theorem rnd_exit {α:Type} {keep:Keep} {st:α → St} {I:α → Prop} {mu:α → Nat} {m:Nat} {k:Post} {T:St} {i:Nat}:rnd keep st I mu m k (.exit i) T = k (.exit i) T:=rfl
@[simp] theorem rnd_ret {α:Type} {keep:Keep} {st:α → St} {I:α → Prop} {mu:α → Nat} {m:Nat} {k:Post} {T:St}:rnd keep st I mu m k .ret T = k .ret T:=rfl
theorem rnd_next {α:Type} {keep:Keep} {st:α → St} {I:α → Prop} {mu:α → Nat} {m:Nat} {k:Post} {T:St} (y:α) (h:T.keep keep = st y) (hi:I y) (hm:mu y < m):rnd keep st I mu m k .normal T:=⟨y,h,hi,hm⟩
theorem go_loop {α:Type} {L:CallF} {c:VC} {gh:List Ghost} {keep:Keep} {a:VC} {k:Post} {S:St} (st:α → St) (I:α → Prop) (mu:α → Nat) (x:α) (hc:c = .loop gh keep a) (hS:bnd (ghosts gh S) fun S => S.keep keep = st x) (hI:I x)
  (step:∀ x,I x → go L a (st x) (rnd keep st I mu (mu x) k)):go L c S k:=by
 subst hc
 obtain ⟨S1,hg,hS⟩:=hS
 suffices h:∀ m x S,S.keep keep = st x → mu x < m → I x → ∃ n e T,iter (fun S => VC.run L n a (S.keep keep)) n S = some (e,T) ∧ k e T by
  obtain ⟨n,e,T,h1,h2⟩:=h (mu x + 1) x S1 hS (by omega) hI
  exact ⟨n,e,T,by simp only [VC.run,hg];exact h1,h2⟩
 intro m
 induction m with
 | zero => intro x S _ h;omega
 | succ m ih =>
   intro x S hS hm hI
   obtain ⟨n,e,T,h1,h2⟩:=step x hI
   rw [← hS] at h1
   cases e with
   | normal =>
     obtain ⟨y,hT,hy,hlt⟩:=h2
     obtain ⟨n',e,T,h3,h4⟩:=ih y T hT (by omega) hy
     refine ⟨n + n' + 1,e,T,?_,h4⟩
     simp only [iter]
     rw [vc_more (by omega) h1]
     exact iter_up (fun S x h => vc_more (by omega) h) (by omega) h3
   | exit i => exact ⟨n + 1,_,_,by simp only [iter];rw [vc_more (by omega) h1],h2⟩
   | ret => exact ⟨n + 1,_,_,by simp only [iter];rw [vc_more (by omega) h1],h2⟩
def Ret (L:CallF) (f:FuncId) (args:List V) (G:List GObj) (Q:V → List GObj → Prop):Prop:=∃ r G',L f args G = some (r,G') ∧ Q r G'
def retK (rs:List RVar) (Q:V → List GObj → Prop):Post:=fun e T => match e with
 | .normal => bnd (retVal T rs) fun v => Q v T.glob
 | .ret => bnd (retVal T rs) fun v => Q v T.glob
 | .exit _ => False
@[simp] theorem retK_normal {rs:List RVar} {Q:V → List GObj → Prop} {T:St}:retK rs Q .normal T = bnd (retVal T rs) fun v => Q v T.glob:=rfl
@[simp] theorem retK_ret {rs:List RVar} {Q:V → List GObj → Prop} {T:St}:retK rs Q .ret T = bnd (retVal T rs) fun v => Q v T.glob:=rfl
theorem ret_of {F:FuncId → Option VFunc} {f:FuncId} {vf:VFunc} (hf:F f = some vf) {args:List V} {G:List GObj} {Q:V → List GObj → Prop} (hl:(args.length == vf.nparams && vf.defs.isEmpty && vf.split.isNone) = true)
  (h:go (Lim F) vf.body { env:=zipEnv 0 args,objs:=[],toks:=[],glob:=G } (retK vf.results Q)):Ret (Lim F) f args G Q:=by
 simp only [Bool.and_eq_true,List.isEmpty_iff,Option.isNone_iff_eq_none] at hl
 obtain ⟨⟨hl,hd⟩,hs⟩:=hl
 obtain ⟨n,e,T,h1,h2⟩:=h
 cases e with
 | exit i => exact h2.elim
 | normal =>
   obtain ⟨v,h3,h4⟩:=h2
   exact ⟨v,T.glob,lim_of hf (n:=n) hd hs (by simp only [VFunc.call,hl,cond_true,h1,h3]),h4⟩
 | ret =>
   obtain ⟨v,h3,h4⟩:=h2
   exact ⟨v,T.glob,lim_of hf (n:=n) hd hs (by simp only [VFunc.call,hl,cond_true,h1,h3]),h4⟩
theorem ret_of_defs {F:FuncId → Option VFunc} {f:FuncId} {vf:VFunc} (hf:F f = some vf) {i off:Nat} {G:List GObj} {Q:V → List GObj → Prop} (hl:(1 == vf.nparams && !vf.defs.isEmpty && vf.split.isNone) = true)
  (h:go (Lim F) vf.body { env:=zipEnv 0 [.gptr i off],objs:=[],toks:=[],glob:=G } (retK vf.results fun _ G1 => ∃ G2,posts (Lim F) [.gptr i off] vf.defs.reverse G1 = some G2 ∧ Q (.tuple []) G2)):Ret (Lim F) f [.gptr i off] G Q:=by
 simp only [Bool.and_eq_true,Bool.not_eq_true',List.isEmpty_eq_false_iff,Option.isNone_iff_eq_none] at hl
 obtain ⟨⟨hl,hd⟩,hs⟩:=hl
 obtain ⟨n,e,T,h1,h2⟩:=h
 cases e with
 | exit i => exact h2.elim
 | normal =>
   obtain ⟨v,h3,G2,h4,h5⟩:=h2
   exact ⟨_,G2,lim_of_defs hf (n:=n) hd hs (r:=v) (by simp only [VFunc.call,List.length_singleton,hl,cond_true,h1,h3]) h4,h5⟩
 | ret =>
   obtain ⟨v,h3,G2,h4,h5⟩:=h2
   exact ⟨_,G2,lim_of_defs hf (n:=n) hd hs (r:=v) (by simp only [VFunc.call,List.length_singleton,hl,cond_true,h1,h3]) h4,h5⟩
theorem eq_of {F:FuncId → Option VFunc} {f:FuncId} {vf:VFunc} (hf:F f = some vf) {args:List V} {G G':List GObj} {r:V} (hl:(args.length == vf.nparams && vf.defs.isEmpty && vf.split.isNone) = true)
  (h:go (Lim F) vf.body { env:=zipEnv 0 args,objs:=[],toks:=[],glob:=G } (retK vf.results fun v G1 => v = r ∧ G1 = G')):Lim F f args G = some (r,G'):=by
 obtain ⟨_,_,h1,rfl,rfl⟩:=ret_of hf hl h
 exact h1
theorem eq_of_split {F:FuncId → Option VFunc} {f:FuncId} {vf:VFunc} (hf:F f = some vf) {args:List V} {G G':List GObj} {r:V} {p m:Nat} (hl:(args.length == vf.nparams && vf.defs.isEmpty) = true) (hs:vf.split = some p) (hp:args[p]? = some (.slice none m []))
  (h:go (Lim F) vf.body { env:=zipEnv 0 (args.set p .nils),objs:=[],toks:=[],glob:=G } (retK vf.results fun v G1 => v = r ∧ G1 = G'))
  (h':go (Lim F) vf.body { env:=zipEnv 0 (args.set p (.nonil m)),objs:=[],toks:=[],glob:=G } (retK vf.results fun v G1 => v = r ∧ G1 = G')):Lim F f args G = some (r,G'):=by
 simp only [Bool.and_eq_true,List.isEmpty_iff] at hl
 obtain ⟨hl,hd⟩:=hl
 have key:∀ u,go (Lim F) vf.body { env:=zipEnv 0 (args.set p u),objs:=[],toks:=[],glob:=G } (retK vf.results fun v G1 => v = r ∧ G1 = G') → ∃ n,vf.call (Lim F) n (args.set p u) G = some (r,G'):=fun u h => by
  obtain ⟨n,e,T,h1,h2⟩:=h
  have hl':((args.set p u).length == vf.nparams) = true:=by rw [List.length_set];exact hl
  cases e with
  | exit i => exact h2.elim
  | normal =>
    obtain ⟨v,h3,rfl,rfl⟩:=h2
    exact ⟨n,by simp only [VFunc.call,hl',cond_true,h1,h3]⟩
  | ret =>
    obtain ⟨v,h3,rfl,rfl⟩:=h2
    exact ⟨n,by simp only [VFunc.call,hl',cond_true,h1,h3]⟩
 obtain ⟨n,h1⟩:=key _ h
 obtain ⟨k,h2⟩:=key _ h'
 exact lim_of_split hf hd hs hp h1 h2
theorem eq_of_nosplit {F:FuncId → Option VFunc} {f:FuncId} {vf:VFunc} (hf:F f = some vf) {args:List V} {G G':List GObj} {r:V} {p:Nat} (hl:(args.length == vf.nparams && vf.defs.isEmpty) = true) (hs:vf.split = some p) (hp:∀ m,args[p]? ≠ some (.slice none m []))
  (h:go (Lim F) vf.body { env:=zipEnv 0 args,objs:=[],toks:=[],glob:=G } (retK vf.results fun v G1 => v = r ∧ G1 = G')):Lim F f args G = some (r,G'):=by
 simp only [Bool.and_eq_true,List.isEmpty_iff] at hl
 obtain ⟨hl,hd⟩:=hl
 obtain ⟨n,e,T,h1,h2⟩:=h
 cases e with
 | exit i => exact h2.elim
 | normal =>
   obtain ⟨v,h3,rfl,rfl⟩:=h2
   exact lim_of_nosplit hf (n:=n) hd hs hp (by simp only [VFunc.call,hl,cond_true,h1,h3])
 | ret =>
   obtain ⟨v,h3,rfl,rfl⟩:=h2
   exact lim_of_nosplit hf (n:=n) hd hs hp (by simp only [VFunc.call,hl,cond_true,h1,h3])
abbrev i64 (n:Int):V:=.int .i64 n
theorem wrap64 {n:Int} (h1:-9223372036854775808 ≤ n) (h2:n ≤ 9223372036854775807):IntKind.i64.wrap n = n:=by
 simp [IntKind.wrap,IntKind.bits,IntKind.signed]
 omega
theorem wrap64_natCast {n:Nat} (h2:n ≤ 9223372036854775807):IntKind.i64.wrap (n:Int) = n:=wrap64 (by omega) (by omega)
def rep {α:Type} (n:Nat) (x:α):List α:=List.replicate n x
@[simp] theorem rep_len {α:Type} {n:Nat} {x:α}:(rep n x).length = n:=by simp [rep]
def tab (n:Nat) (f:Nat → Int):List V:=(List.range n).map fun j => .int .i64 (f j)
@[simp] theorem tab_len {n:Nat} {f:Nat → Int}:(tab n f).length = n:=by simp [tab]
theorem tab_ext {n:Nat} {f g:Nat → Int} (h:∀ j,j < n → f j = g j):tab n f = tab n g:=by
 unfold tab
 apply List.map_congr_left
 intro j hj
 rw [h j (by simpa using hj)]
theorem tab_get {n:Nat} {f:Nat → Int} {i:Nat} (h:i < n):(tab n f)[i]? = some (.int .i64 (f i)):=by simp [tab,h]
@[simp] theorem tab_set {n:Nat} {f:Nat → Int} {i:Nat} {v:Int}:(tab n f).set i (.int .i64 v) = tab n fun j => if j = i then v else f j:=by
 apply List.ext_getElem?
 intro k
 by_cases hk:k < n
 ·by_cases h:i = k
  ·subst h
   rw [List.getElem?_set_self (by simpa using hk),tab_get hk]
   simp
  ·rw [List.getElem?_set_ne h,tab_get hk,tab_get hk,if_neg (fun e => h e.symm)]
 ·rw [List.getElem?_eq_none (by simp;omega),List.getElem?_eq_none (by simp;omega)]
@[simp] theorem tab_cells {n:Nat} {f:Nat → Int}:(tab n f).all V.isCell = true:=by
 simp [tab,V.isCell]
@[simp] theorem tab_men {n:Nat} {f:Nat → Int} {d:Nat}:(tab n f).all (fun v => !v.men0 d) = true:=by
 simp [tab,V.men0]
@[simp] theorem tab_lone {n:Nat} {f:Nat → Int}:(tab n f).all V.lone1 = true:=by
 simp [tab,V.lone1,V.plain]
@[simp] theorem tab_strip {n:Nat} {f:Nat → Int}:(tab n f).map strip0 = tab n f:=by
 simp [tab,strip0]
@[simp] theorem tab_strip' {n:Nat} {f:Nat → Int}:(tab n f).map strip = tab n f:=by
 simp [tab,strip,strip0]
@[simp] theorem tab_any {n:Nat} {f:Nat → Int} {d:Nat}:(tab n f).any (V.men0 d) = false:=by
 simp [tab,V.men0]
@[simp] theorem tab_take {n:Nat} {f:Nat → Int}:(tab n f).take n = tab n f:=List.take_of_length_le (by simp)
theorem rets_map {S:St} {used:List Nat} {α:Type} (g:α → Int):∀ l:List α,rets S (List.replicate l.length none) used (l.map fun j => .int .i64 (g j)) = some (l.map fun j => .int .i64 (g j),used)
 | [] => rfl
 | a :: l => by simp [List.replicate_succ,rets,ret1,gel,el,rets_map g l]
@[simp] theorem tab_rets {S:St} {used:List Nat} {n:Nat} {f:Nat → Int}:rets S (rep n none) used (tab n f) = some (tab n f,used):=by
 unfold rep
 have:=rets_map (S:=S) (used:=used) f (List.range n)
 rwa [List.length_range] at this
@[simp] theorem tab_zero {n:Nat}:rep n (V.int .i64 0) = tab n fun _ => 0:=by
 simp [rep,tab,List.map_const']
theorem setAll_drop:∀ (cs:List V) (off:Nat) (vs:List V),off + vs.length ≤ cs.length → setAll cs off vs = cs.take off ++ vs ++ cs.drop (off + vs.length)
 | cs,off,[],h => by simp [setAll]
 | cs,off,v :: vs,h => by
   simp only [List.length_cons] at h
   rw [setAll,setAll_drop _ _ _ (by simp;omega)]
   apply List.ext_getElem?
   intro i
   simp only [List.length_cons,List.getElem?_append,List.length_take,List.length_append,List.length_set,List.getElem?_take,List.getElem?_set,List.getElem?_drop,List.getElem?_cons]
   rcases Nat.lt_trichotomy i off with h1 | h1 | h1
   ·simp (disch:=omega) [h1,if_pos,if_neg]
   ·subst h1
    grind
   ·grind
theorem setAll_all {cs vs:List V} (h:vs.length = cs.length):setAll cs 0 vs = vs:=by
 rw [setAll_drop _ _ _ (by omega)]
 simp [h]
@[simp] theorem setAll_tab {n:Nat} {f g:Nat → Int}:setAll (tab n f) 0 (tab n g) = tab n g:=setAll_all (by simp)
@[simp] theorem sm_men0_undef  {d:Nat}:V.men0 d (.undef:V) = false:=rfl
@[simp] theorem sm_men1_undef  {d:Nat}:V.men1 d (.undef:V) = false:=rfl
@[simp] theorem sm_men_undef  {d:Nat}:V.men d (.undef:V) = false:=rfl
@[simp] theorem sm_isCell_undef :V.isCell (.undef:V) = false:=rfl
@[simp] theorem sm_cells_undef :V.cells (.undef:V) = [.undef]:=rfl
@[simp] theorem sm_plain_undef :V.plain (.undef:V) = false:=rfl
@[simp] theorem sm_lone1_undef :V.lone1 (.undef:V) = false:=rfl
@[simp] theorem sm_lone2_undef :V.lone2 (.undef:V) = false:=rfl
@[simp] theorem sm_lone_undef :V.lone (.undef:V) = false:=rfl
@[simp] theorem sm_strip0_undef :strip0 (.undef:V) = .undef:=rfl
@[simp] theorem sm_strip_undef :strip (.undef:V) = .undef:=rfl
@[simp] theorem sm_men0_int {k:IntKind} {n:Int} {d:Nat}:V.men0 d (.int k n:V) = false:=rfl
@[simp] theorem sm_men1_int {k:IntKind} {n:Int} {d:Nat}:V.men1 d (.int k n:V) = false:=rfl
@[simp] theorem sm_men_int {k:IntKind} {n:Int} {d:Nat}:V.men d (.int k n:V) = false:=rfl
@[simp] theorem sm_isCell_int {k:IntKind} {n:Int}:V.isCell (.int k n:V) = true:=rfl
@[simp] theorem sm_cells_int {k:IntKind} {n:Int}:V.cells (.int k n:V) = [.int k n]:=rfl
@[simp] theorem sm_plain_int {k:IntKind} {n:Int}:V.plain (.int k n:V) = true:=rfl
@[simp] theorem sm_lone1_int {k:IntKind} {n:Int}:V.lone1 (.int k n:V) = true:=rfl
@[simp] theorem sm_lone2_int {k:IntKind} {n:Int}:V.lone2 (.int k n:V) = true:=rfl
@[simp] theorem sm_lone_int {k:IntKind} {n:Int}:V.lone (.int k n:V) = true:=rfl
@[simp] theorem sm_strip0_int {k:IntKind} {n:Int}:strip0 (.int k n:V) = .int k n:=rfl
@[simp] theorem sm_strip_int {k:IntKind} {n:Int}:strip (.int k n:V) = .int k n:=rfl
@[simp] theorem sm_men0_bool {b:Bool} {d:Nat}:V.men0 d (.bool b:V) = false:=rfl
@[simp] theorem sm_men1_bool {b:Bool} {d:Nat}:V.men1 d (.bool b:V) = false:=rfl
@[simp] theorem sm_men_bool {b:Bool} {d:Nat}:V.men d (.bool b:V) = false:=rfl
@[simp] theorem sm_isCell_bool {b:Bool}:V.isCell (.bool b:V) = true:=rfl
@[simp] theorem sm_cells_bool {b:Bool}:V.cells (.bool b:V) = [.bool b]:=rfl
@[simp] theorem sm_plain_bool {b:Bool}:V.plain (.bool b:V) = true:=rfl
@[simp] theorem sm_lone1_bool {b:Bool}:V.lone1 (.bool b:V) = true:=rfl
@[simp] theorem sm_lone2_bool {b:Bool}:V.lone2 (.bool b:V) = true:=rfl
@[simp] theorem sm_lone_bool {b:Bool}:V.lone (.bool b:V) = true:=rfl
@[simp] theorem sm_strip0_bool {b:Bool}:strip0 (.bool b:V) = .bool b:=rfl
@[simp] theorem sm_strip_bool {b:Bool}:strip (.bool b:V) = .bool b:=rfl
@[simp] theorem sm_men0_str {s:List UInt8} {d:Nat}:V.men0 d (.str s:V) = false:=rfl
@[simp] theorem sm_men1_str {s:List UInt8} {d:Nat}:V.men1 d (.str s:V) = false:=rfl
@[simp] theorem sm_men_str {s:List UInt8} {d:Nat}:V.men d (.str s:V) = false:=rfl
@[simp] theorem sm_isCell_str {s:List UInt8}:V.isCell (.str s:V) = true:=rfl
@[simp] theorem sm_cells_str {s:List UInt8}:V.cells (.str s:V) = [.str s]:=rfl
@[simp] theorem sm_plain_str {s:List UInt8}:V.plain (.str s:V) = true:=rfl
@[simp] theorem sm_lone1_str {s:List UInt8}:V.lone1 (.str s:V) = true:=rfl
@[simp] theorem sm_lone2_str {s:List UInt8}:V.lone2 (.str s:V) = true:=rfl
@[simp] theorem sm_lone_str {s:List UInt8}:V.lone (.str s:V) = true:=rfl
@[simp] theorem sm_strip0_str {s:List UInt8}:strip0 (.str s:V) = .str s:=rfl
@[simp] theorem sm_strip_str {s:List UInt8}:strip (.str s:V) = .str s:=rfl
@[simp] theorem sm_men0_nils  {d:Nat}:V.men0 d (.nils:V) = false:=rfl
@[simp] theorem sm_men1_nils  {d:Nat}:V.men1 d (.nils:V) = false:=rfl
@[simp] theorem sm_men_nils  {d:Nat}:V.men d (.nils:V) = false:=rfl
@[simp] theorem sm_isCell_nils :V.isCell (.nils:V) = true:=rfl
@[simp] theorem sm_cells_nils :V.cells (.nils:V) = [.nils]:=rfl
@[simp] theorem sm_plain_nils :V.plain (.nils:V) = true:=rfl
@[simp] theorem sm_lone1_nils :V.lone1 (.nils:V) = true:=rfl
@[simp] theorem sm_lone2_nils :V.lone2 (.nils:V) = true:=rfl
@[simp] theorem sm_lone_nils :V.lone (.nils:V) = true:=rfl
@[simp] theorem sm_strip0_nils :strip0 (.nils:V) = .nils:=rfl
@[simp] theorem sm_strip_nils :strip (.nils:V) = .nils:=rfl
@[simp] theorem sm_men0_slice_n {z:Nat} {es:List (List V)} {d:Nat}:V.men0 d (.slice none z es:V) = false:=rfl
@[simp] theorem sm_men1_slice_n {z:Nat} {es:List (List V)} {d:Nat}:V.men1 d (.slice none z es:V) = false:=rfl
@[simp] theorem sm_men_slice_n {z:Nat} {es:List (List V)} {d:Nat}:V.men d (.slice none z es:V) = false:=rfl
@[simp] theorem sm_isCell_slice_n {z:Nat} {es:List (List V)}:V.isCell (.slice none z es:V) = true:=rfl
@[simp] theorem sm_cells_slice_n {z:Nat} {es:List (List V)}:V.cells (.slice none z es:V) = [.slice none z es]:=rfl
@[simp] theorem sm_plain_slice_n {z:Nat} {es:List (List V)}:V.plain (.slice none z es:V) = true:=rfl
@[simp] theorem sm_lone1_slice_n {z:Nat} {es:List (List V)}:V.lone1 (.slice none z es:V) = true:=rfl
@[simp] theorem sm_lone2_slice_n {z:Nat} {es:List (List V)}:V.lone2 (.slice none z es:V) = true:=rfl
@[simp] theorem sm_lone_slice_n {z:Nat} {es:List (List V)}:V.lone (.slice none z es:V) = true:=rfl
@[simp] theorem sm_strip0_slice_n {z:Nat} {es:List (List V)}:strip0 (.slice none z es:V) = .slice none z es:=rfl
@[simp] theorem sm_strip_slice_n {z:Nat} {es:List (List V)}:strip (.slice none z es:V) = .slice none z es:=rfl
@[simp] theorem sm_men0_slice_s {t z:Nat} {es:List (List V)} {d:Nat}:V.men0 d (.slice (some t) z es:V) = (t == d):=rfl
@[simp] theorem sm_men1_slice_s {t z:Nat} {es:List (List V)} {d:Nat}:V.men1 d (.slice (some t) z es:V) = (t == d):=rfl
@[simp] theorem sm_men_slice_s {t z:Nat} {es:List (List V)} {d:Nat}:V.men d (.slice (some t) z es:V) = (t == d):=rfl
@[simp] theorem sm_isCell_slice_s {t z:Nat} {es:List (List V)}:V.isCell (.slice (some t) z es:V) = true:=rfl
@[simp] theorem sm_cells_slice_s {t z:Nat} {es:List (List V)}:V.cells (.slice (some t) z es:V) = [.slice (some t) z es]:=rfl
@[simp] theorem sm_plain_slice_s {t z:Nat} {es:List (List V)}:V.plain (.slice (some t) z es:V) = false:=rfl
@[simp] theorem sm_lone1_slice_s {t z:Nat} {es:List (List V)}:V.lone1 (.slice (some t) z es:V) = true:=rfl
@[simp] theorem sm_lone2_slice_s {t z:Nat} {es:List (List V)}:V.lone2 (.slice (some t) z es:V) = true:=rfl
@[simp] theorem sm_lone_slice_s {t z:Nat} {es:List (List V)}:V.lone (.slice (some t) z es:V) = true:=rfl
@[simp] theorem sm_strip0_slice_s {t z:Nat} {es:List (List V)}:strip0 (.slice (some t) z es:V) = .slice none z es:=rfl
@[simp] theorem sm_strip_slice_s {t z:Nat} {es:List (List V)}:strip (.slice (some t) z es:V) = .slice none z es:=rfl
@[simp] theorem sm_men0_agg {cs:List V} {d:Nat}:V.men0 d (.agg cs:V) = true:=rfl
@[simp] theorem sm_men1_agg {cs:List V} {d:Nat}:V.men1 d (.agg cs:V) = cs.any (V.men0 d):=rfl
@[simp] theorem sm_men_agg {cs:List V} {d:Nat}:V.men d (.agg cs:V) = cs.any (V.men0 d):=rfl
@[simp] theorem sm_isCell_agg {cs:List V}:V.isCell (.agg cs:V) = false:=rfl
@[simp] theorem sm_cells_agg {cs:List V}:V.cells (.agg cs:V) = cs:=rfl
@[simp] theorem sm_plain_agg {cs:List V}:V.plain (.agg cs:V) = false:=rfl
@[simp] theorem sm_lone1_agg {cs:List V}:V.lone1 (.agg cs:V) = false:=rfl
@[simp] theorem sm_lone2_agg {cs:List V}:V.lone2 (.agg cs:V) = cs.all V.lone1:=rfl
@[simp] theorem sm_lone_agg {cs:List V}:V.lone (.agg cs:V) = cs.all V.lone1:=rfl
@[simp] theorem sm_strip0_agg {cs:List V}:strip0 (.agg cs:V) = .agg cs:=rfl
@[simp] theorem sm_strip_agg {cs:List V}:strip (.agg cs:V) = .agg (cs.map strip0):=rfl
@[simp] theorem sm_men0_tuple {vs:List V} {d:Nat}:V.men0 d (.tuple vs:V) = true:=rfl
@[simp] theorem sm_men1_tuple {vs:List V} {d:Nat}:V.men1 d (.tuple vs:V) = true:=rfl
@[simp] theorem sm_men_tuple {vs:List V} {d:Nat}:V.men d (.tuple vs:V) = vs.any (V.men1 d):=rfl
@[simp] theorem sm_isCell_tuple {vs:List V}:V.isCell (.tuple vs:V) = false:=rfl
@[simp] theorem sm_cells_tuple {vs:List V}:V.cells (.tuple vs:V) = [.tuple vs]:=rfl
@[simp] theorem sm_plain_tuple {vs:List V}:V.plain (.tuple vs:V) = false:=rfl
@[simp] theorem sm_lone1_tuple {vs:List V}:V.lone1 (.tuple vs:V) = false:=rfl
@[simp] theorem sm_lone2_tuple {vs:List V}:V.lone2 (.tuple vs:V) = false:=rfl
@[simp] theorem sm_lone_tuple {vs:List V}:V.lone (.tuple vs:V) = vs.all V.lone2:=rfl
@[simp] theorem sm_strip0_tuple {vs:List V}:strip0 (.tuple vs:V) = .tuple vs:=rfl
@[simp] theorem sm_strip_tuple {vs:List V}:strip (.tuple vs:V) = .tuple vs:=rfl
@[simp] theorem sm_men0_eptr {r:List V} {o:Nat} {d:Nat}:V.men0 d (.eptr r o:V) = false:=rfl
@[simp] theorem sm_men1_eptr {r:List V} {o:Nat} {d:Nat}:V.men1 d (.eptr r o:V) = false:=rfl
@[simp] theorem sm_men_eptr {r:List V} {o:Nat} {d:Nat}:V.men d (.eptr r o:V) = false:=rfl
@[simp] theorem sm_isCell_eptr {r:List V} {o:Nat}:V.isCell (.eptr r o:V) = true:=rfl
@[simp] theorem sm_cells_eptr {r:List V} {o:Nat}:V.cells (.eptr r o:V) = [.eptr r o]:=rfl
@[simp] theorem sm_plain_eptr {r:List V} {o:Nat}:V.plain (.eptr r o:V) = false:=rfl
@[simp] theorem sm_lone1_eptr {r:List V} {o:Nat}:V.lone1 (.eptr r o:V) = false:=rfl
@[simp] theorem sm_lone2_eptr {r:List V} {o:Nat}:V.lone2 (.eptr r o:V) = false:=rfl
@[simp] theorem sm_lone_eptr {r:List V} {o:Nat}:V.lone (.eptr r o:V) = false:=rfl
@[simp] theorem sm_strip0_eptr {r:List V} {o:Nat}:strip0 (.eptr r o:V) = .eptr r o:=rfl
@[simp] theorem sm_strip_eptr {r:List V} {o:Nat}:strip (.eptr r o:V) = .eptr r o:=rfl
@[simp] theorem sm_men0_lptr {i o:Nat} {d:Nat}:V.men0 d (.lptr i o:V) = (i == d):=rfl
@[simp] theorem sm_men1_lptr {i o:Nat} {d:Nat}:V.men1 d (.lptr i o:V) = (i == d):=rfl
@[simp] theorem sm_men_lptr {i o:Nat} {d:Nat}:V.men d (.lptr i o:V) = (i == d):=rfl
@[simp] theorem sm_isCell_lptr {i o:Nat}:V.isCell (.lptr i o:V) = true:=rfl
@[simp] theorem sm_cells_lptr {i o:Nat}:V.cells (.lptr i o:V) = [.lptr i o]:=rfl
@[simp] theorem sm_plain_lptr {i o:Nat}:V.plain (.lptr i o:V) = false:=rfl
@[simp] theorem sm_lone1_lptr {i o:Nat}:V.lone1 (.lptr i o:V) = false:=rfl
@[simp] theorem sm_lone2_lptr {i o:Nat}:V.lone2 (.lptr i o:V) = false:=rfl
@[simp] theorem sm_lone_lptr {i o:Nat}:V.lone (.lptr i o:V) = false:=rfl
@[simp] theorem sm_strip0_lptr {i o:Nat}:strip0 (.lptr i o:V) = .lptr i o:=rfl
@[simp] theorem sm_strip_lptr {i o:Nat}:strip (.lptr i o:V) = .lptr i o:=rfl
@[simp] theorem sm_men0_lref {i o l:Nat} {d:Nat}:V.men0 d (.lref i o l:V) = (i == d):=rfl
@[simp] theorem sm_men1_lref {i o l:Nat} {d:Nat}:V.men1 d (.lref i o l:V) = (i == d):=rfl
@[simp] theorem sm_men_lref {i o l:Nat} {d:Nat}:V.men d (.lref i o l:V) = (i == d):=rfl
@[simp] theorem sm_isCell_lref {i o l:Nat}:V.isCell (.lref i o l:V) = true:=rfl
@[simp] theorem sm_cells_lref {i o l:Nat}:V.cells (.lref i o l:V) = [.lref i o l]:=rfl
@[simp] theorem sm_plain_lref {i o l:Nat}:V.plain (.lref i o l:V) = false:=rfl
@[simp] theorem sm_lone1_lref {i o l:Nat}:V.lone1 (.lref i o l:V) = false:=rfl
@[simp] theorem sm_lone2_lref {i o l:Nat}:V.lone2 (.lref i o l:V) = false:=rfl
@[simp] theorem sm_lone_lref {i o l:Nat}:V.lone (.lref i o l:V) = false:=rfl
@[simp] theorem sm_strip0_lref {i o l:Nat}:strip0 (.lref i o l:V) = .lref i o l:=rfl
@[simp] theorem sm_strip_lref {i o l:Nat}:strip (.lref i o l:V) = .lref i o l:=rfl
@[simp] theorem sm_men0_gptr {i o:Nat} {d:Nat}:V.men0 d (.gptr i o:V) = false:=rfl
@[simp] theorem sm_men1_gptr {i o:Nat} {d:Nat}:V.men1 d (.gptr i o:V) = false:=rfl
@[simp] theorem sm_men_gptr {i o:Nat} {d:Nat}:V.men d (.gptr i o:V) = false:=rfl
@[simp] theorem sm_isCell_gptr {i o:Nat}:V.isCell (.gptr i o:V) = true:=rfl
@[simp] theorem sm_cells_gptr {i o:Nat}:V.cells (.gptr i o:V) = [.gptr i o]:=rfl
@[simp] theorem sm_plain_gptr {i o:Nat}:V.plain (.gptr i o:V) = false:=rfl
@[simp] theorem sm_lone1_gptr {i o:Nat}:V.lone1 (.gptr i o:V) = false:=rfl
@[simp] theorem sm_lone2_gptr {i o:Nat}:V.lone2 (.gptr i o:V) = false:=rfl
@[simp] theorem sm_lone_gptr {i o:Nat}:V.lone (.gptr i o:V) = false:=rfl
@[simp] theorem sm_strip0_gptr {i o:Nat}:strip0 (.gptr i o:V) = .gptr i o:=rfl
@[simp] theorem sm_strip_gptr {i o:Nat}:strip (.gptr i o:V) = .gptr i o:=rfl
@[simp] theorem sm_men0_nilptr  {d:Nat}:V.men0 d (.nilptr:V) = false:=rfl
@[simp] theorem sm_men1_nilptr  {d:Nat}:V.men1 d (.nilptr:V) = false:=rfl
@[simp] theorem sm_men_nilptr  {d:Nat}:V.men d (.nilptr:V) = false:=rfl
@[simp] theorem sm_isCell_nilptr :V.isCell (.nilptr:V) = true:=rfl
@[simp] theorem sm_cells_nilptr :V.cells (.nilptr:V) = [.nilptr]:=rfl
@[simp] theorem sm_plain_nilptr :V.plain (.nilptr:V) = false:=rfl
@[simp] theorem sm_lone1_nilptr :V.lone1 (.nilptr:V) = false:=rfl
@[simp] theorem sm_lone2_nilptr :V.lone2 (.nilptr:V) = false:=rfl
@[simp] theorem sm_lone_nilptr :V.lone (.nilptr:V) = false:=rfl
@[simp] theorem sm_strip0_nilptr :strip0 (.nilptr:V) = .nilptr:=rfl
@[simp] theorem sm_strip_nilptr :strip (.nilptr:V) = .nilptr:=rfl
@[simp] theorem sm_men0_fn {f:FuncId} {c:List V} {d:Nat}:V.men0 d (.fn f c:V) = false:=rfl
@[simp] theorem sm_men1_fn {f:FuncId} {c:List V} {d:Nat}:V.men1 d (.fn f c:V) = false:=rfl
@[simp] theorem sm_men_fn {f:FuncId} {c:List V} {d:Nat}:V.men d (.fn f c:V) = false:=rfl
@[simp] theorem sm_isCell_fn {f:FuncId} {c:List V}:V.isCell (.fn f c:V) = true:=rfl
@[simp] theorem sm_cells_fn {f:FuncId} {c:List V}:V.cells (.fn f c:V) = [.fn f c]:=rfl
@[simp] theorem sm_plain_fn {f:FuncId} {c:List V}:V.plain (.fn f c:V) = false:=rfl
@[simp] theorem sm_lone1_fn {f:FuncId} {c:List V}:V.lone1 (.fn f c:V) = false:=rfl
@[simp] theorem sm_lone2_fn {f:FuncId} {c:List V}:V.lone2 (.fn f c:V) = false:=rfl
@[simp] theorem sm_lone_fn {f:FuncId} {c:List V}:V.lone (.fn f c:V) = false:=rfl
@[simp] theorem sm_strip0_fn {f:FuncId} {c:List V}:strip0 (.fn f c:V) = .fn f c:=rfl
@[simp] theorem sm_strip_fn {f:FuncId} {c:List V}:strip (.fn f c:V) = .fn f c:=rfl
@[simp] theorem sm_men0_nilfn  {d:Nat}:V.men0 d (.nilfn:V) = false:=rfl
@[simp] theorem sm_men1_nilfn  {d:Nat}:V.men1 d (.nilfn:V) = false:=rfl
@[simp] theorem sm_men_nilfn  {d:Nat}:V.men d (.nilfn:V) = false:=rfl
@[simp] theorem sm_isCell_nilfn :V.isCell (.nilfn:V) = true:=rfl
@[simp] theorem sm_cells_nilfn :V.cells (.nilfn:V) = [.nilfn]:=rfl
@[simp] theorem sm_plain_nilfn :V.plain (.nilfn:V) = false:=rfl
@[simp] theorem sm_lone1_nilfn :V.lone1 (.nilfn:V) = false:=rfl
@[simp] theorem sm_lone2_nilfn :V.lone2 (.nilfn:V) = false:=rfl
@[simp] theorem sm_lone_nilfn :V.lone (.nilfn:V) = false:=rfl
@[simp] theorem sm_strip0_nilfn :strip0 (.nilfn:V) = .nilfn:=rfl
@[simp] theorem sm_strip_nilfn :strip (.nilfn:V) = .nilfn:=rfl
@[simp] theorem sm_men0_map {i:Nat} {d:Nat}:V.men0 d (.map i:V) = false:=rfl
@[simp] theorem sm_men1_map {i:Nat} {d:Nat}:V.men1 d (.map i:V) = false:=rfl
@[simp] theorem sm_men_map {i:Nat} {d:Nat}:V.men d (.map i:V) = false:=rfl
@[simp] theorem sm_isCell_map {i:Nat}:V.isCell (.map i:V) = true:=rfl
@[simp] theorem sm_cells_map {i:Nat}:V.cells (.map i:V) = [.map i]:=rfl
@[simp] theorem sm_plain_map {i:Nat}:V.plain (.map i:V) = false:=rfl
@[simp] theorem sm_lone1_map {i:Nat}:V.lone1 (.map i:V) = false:=rfl
@[simp] theorem sm_lone2_map {i:Nat}:V.lone2 (.map i:V) = false:=rfl
@[simp] theorem sm_lone_map {i:Nat}:V.lone (.map i:V) = false:=rfl
@[simp] theorem sm_strip0_map {i:Nat}:strip0 (.map i:V) = .map i:=rfl
@[simp] theorem sm_strip_map {i:Nat}:strip (.map i:V) = .map i:=rfl
@[simp] theorem sm_men0_nilmap  {d:Nat}:V.men0 d (.nilmap:V) = false:=rfl
@[simp] theorem sm_men1_nilmap  {d:Nat}:V.men1 d (.nilmap:V) = false:=rfl
@[simp] theorem sm_men_nilmap  {d:Nat}:V.men d (.nilmap:V) = false:=rfl
@[simp] theorem sm_isCell_nilmap :V.isCell (.nilmap:V) = true:=rfl
@[simp] theorem sm_cells_nilmap :V.cells (.nilmap:V) = [.nilmap]:=rfl
@[simp] theorem sm_plain_nilmap :V.plain (.nilmap:V) = false:=rfl
@[simp] theorem sm_lone1_nilmap :V.lone1 (.nilmap:V) = false:=rfl
@[simp] theorem sm_lone2_nilmap :V.lone2 (.nilmap:V) = false:=rfl
@[simp] theorem sm_lone_nilmap :V.lone (.nilmap:V) = false:=rfl
@[simp] theorem sm_strip0_nilmap :strip0 (.nilmap:V) = .nilmap:=rfl
@[simp] theorem sm_strip_nilmap :strip (.nilmap:V) = .nilmap:=rfl
@[simp] theorem sm_men0_oslice {n:Nat} {es:List (List V)} {d:Nat}:V.men0 d (.oslice n es:V) = false:=rfl
@[simp] theorem sm_men1_oslice {n:Nat} {es:List (List V)} {d:Nat}:V.men1 d (.oslice n es:V) = false:=rfl
@[simp] theorem sm_men_oslice {n:Nat} {es:List (List V)} {d:Nat}:V.men d (.oslice n es:V) = false:=rfl
@[simp] theorem sm_isCell_oslice {n:Nat} {es:List (List V)}:V.isCell (.oslice n es:V) = true:=rfl
@[simp] theorem sm_cells_oslice {n:Nat} {es:List (List V)}:V.cells (.oslice n es:V) = [.oslice n es]:=rfl
@[simp] theorem sm_plain_oslice {n:Nat} {es:List (List V)}:V.plain (.oslice n es:V) = false:=rfl
@[simp] theorem sm_lone1_oslice {n:Nat} {es:List (List V)}:V.lone1 (.oslice n es:V) = false:=rfl
@[simp] theorem sm_lone2_oslice {n:Nat} {es:List (List V)}:V.lone2 (.oslice n es:V) = false:=rfl
@[simp] theorem sm_lone_oslice {n:Nat} {es:List (List V)}:V.lone (.oslice n es:V) = false:=rfl
@[simp] theorem sm_strip0_oslice {n:Nat} {es:List (List V)}:strip0 (.oslice n es:V) = .oslice n es:=rfl
@[simp] theorem sm_strip_oslice {n:Nat} {es:List (List V)}:strip (.oslice n es:V) = .oslice n es:=rfl
@[simp] theorem sm_shed0_int {k:IntKind} {n:Int}:V.shed0 (.int k n:V) = .int k n:=rfl
@[simp] theorem sm_shed_int {k:IntKind} {n:Int}:V.shed (.int k n:V) = .int k n:=rfl
@[simp] theorem sm_shed0_bool {b:Bool}:V.shed0 (.bool b:V) = .bool b:=rfl
@[simp] theorem sm_shed_bool {b:Bool}:V.shed (.bool b:V) = .bool b:=rfl
@[simp] theorem sm_shed0_str {s:List UInt8}:V.shed0 (.str s:V) = .str s:=rfl
@[simp] theorem sm_shed_str {s:List UInt8}:V.shed (.str s:V) = .str s:=rfl
@[simp] theorem sm_shed0_nils :V.shed0 (.nils:V) = .nils:=rfl
@[simp] theorem sm_shed_nils :V.shed (.nils:V) = .nils:=rfl
@[simp] theorem sm_shed0_slice {t:Option Nat} {n:Nat} {es:List (List V)}:V.shed0 (.slice t n es:V) = .slice t n es:=rfl
@[simp] theorem sm_shed_slice {t:Option Nat} {n:Nat} {es:List (List V)}:V.shed (.slice t n es:V) = .slice t n es:=rfl
@[simp] theorem sm_shed0_lref {i o l:Nat}:V.shed0 (.lref i o l:V) = .lref i o l:=rfl
@[simp] theorem sm_shed_lref {i o l:Nat}:V.shed (.lref i o l:V) = .lref i o l:=rfl
@[simp] theorem sm_shed0_gptr {i o:Nat}:V.shed0 (.gptr i o:V) = .gptr i o:=rfl
@[simp] theorem sm_shed_gptr {i o:Nat}:V.shed (.gptr i o:V) = .gptr i o:=rfl
@[simp] theorem sm_shed0_nilptr :V.shed0 (.nilptr:V) = .nilptr:=rfl
@[simp] theorem sm_shed_nilptr :V.shed (.nilptr:V) = .nilptr:=rfl
@[simp] theorem sm_shed0_fn {f:FuncId} {c:List V}:V.shed0 (.fn f c:V) = .fn f c:=rfl
@[simp] theorem sm_shed_fn {f:FuncId} {c:List V}:V.shed (.fn f c:V) = .fn f c:=rfl
@[simp] theorem sm_shed0_nilfn :V.shed0 (.nilfn:V) = .nilfn:=rfl
@[simp] theorem sm_shed_nilfn :V.shed (.nilfn:V) = .nilfn:=rfl
@[simp] theorem sm_shed0_map {i:Nat}:V.shed0 (.map i:V) = .map i:=rfl
@[simp] theorem sm_shed_map {i:Nat}:V.shed (.map i:V) = .map i:=rfl
@[simp] theorem sm_shed0_nilmap :V.shed0 (.nilmap:V) = .nilmap:=rfl
@[simp] theorem sm_shed_nilmap :V.shed (.nilmap:V) = .nilmap:=rfl
@[simp] theorem sm_shed0_oslice {n:Nat} {es:List (List V)}:V.shed0 (.oslice n es:V) = .slice none n es:=rfl
@[simp] theorem sm_shed_oslice {n:Nat} {es:List (List V)}:V.shed (.oslice n es:V) = .slice none n es:=rfl
@[simp] theorem sm_shed_agg {cs:List V}:V.shed (.agg cs:V) = .agg (cs.map V.shed0):=rfl
@[simp] theorem sm_men0_zed {n:Nat} {d:Nat}:V.men0 d (.zed n:V) = false:=rfl
@[simp] theorem sm_men1_zed {n:Nat} {d:Nat}:V.men1 d (.zed n:V) = false:=rfl
@[simp] theorem sm_men_zed {n:Nat} {d:Nat}:V.men d (.zed n:V) = false:=rfl
@[simp] theorem sm_isCell_zed {n:Nat}:V.isCell (.zed n:V) = true:=rfl
@[simp] theorem sm_cells_zed {n:Nat}:V.cells (.zed n:V) = [.zed n]:=rfl
@[simp] theorem sm_plain_zed {n:Nat}:V.plain (.zed n:V) = false:=rfl
@[simp] theorem sm_lone1_zed {n:Nat}:V.lone1 (.zed n:V) = false:=rfl
@[simp] theorem sm_lone2_zed {n:Nat}:V.lone2 (.zed n:V) = false:=rfl
@[simp] theorem sm_lone_zed {n:Nat}:V.lone (.zed n:V) = false:=rfl
@[simp] theorem sm_strip0_zed {n:Nat}:strip0 (.zed n:V) = .zed n:=rfl
@[simp] theorem sm_strip_zed {n:Nat}:strip (.zed n:V) = .zed n:=rfl
@[simp] theorem sm_shed0_zed {n:Nat}:V.shed0 (.zed n:V) = .zed n:=rfl
@[simp] theorem sm_shed_zed {n:Nat}:V.shed (.zed n:V) = .zed n:=rfl
@[simp] theorem sm_men0_nonil {n:Nat} {d:Nat}:V.men0 d (.nonil n:V) = false:=rfl
@[simp] theorem sm_men1_nonil {n:Nat} {d:Nat}:V.men1 d (.nonil n:V) = false:=rfl
@[simp] theorem sm_men_nonil {n:Nat} {d:Nat}:V.men d (.nonil n:V) = false:=rfl
@[simp] theorem sm_isCell_nonil {n:Nat}:V.isCell (.nonil n:V) = true:=rfl
@[simp] theorem sm_cells_nonil {n:Nat}:V.cells (.nonil n:V) = [.nonil n]:=rfl
@[simp] theorem sm_plain_nonil {n:Nat}:V.plain (.nonil n:V) = false:=rfl
@[simp] theorem sm_lone1_nonil {n:Nat}:V.lone1 (.nonil n:V) = false:=rfl
@[simp] theorem sm_lone2_nonil {n:Nat}:V.lone2 (.nonil n:V) = false:=rfl
@[simp] theorem sm_lone_nonil {n:Nat}:V.lone (.nonil n:V) = false:=rfl
@[simp] theorem sm_strip0_nonil {n:Nat}:strip0 (.nonil n:V) = .nonil n:=rfl
@[simp] theorem sm_strip_nonil {n:Nat}:strip (.nonil n:V) = .nonil n:=rfl
@[simp] theorem sm_shed0_nonil {n:Nat}:V.shed0 (.nonil n:V) = .nonil n:=rfl
@[simp] theorem sm_shed_nonil {n:Nat}:V.shed (.nonil n:V) = .nonil n:=rfl
@[simp] theorem sm_strip0_slice_t {t:Option Nat} {z:Nat} {es:List (List V)}:strip0 (.slice t z es:V) = .slice none z es:=by cases t <;> rfl
@[simp] theorem sm_strip_slice_t {t:Option Nat} {z:Nat} {es:List (List V)}:strip (.slice t z es:V) = .slice none z es:=by cases t <;> rfl
@[simp] theorem sm_lone1_slice_t {t:Option Nat} {z:Nat} {es:List (List V)}:V.lone1 (.slice t z es:V) = true:=by cases t <;> rfl
@[simp] theorem sm_lone2_slice_t {t:Option Nat} {z:Nat} {es:List (List V)}:V.lone2 (.slice t z es:V) = true:=by cases t <;> rfl
@[simp] theorem sm_lone_slice_t {t:Option Nat} {z:Nat} {es:List (List V)}:V.lone (.slice t z es:V) = true:=by cases t <;> rfl
@[simp] theorem sm_cell_slice_t {t:Option Nat} {z:Nat} {es:List (List V)}:V.isCell (.slice t z es:V) = true:=by cases t <;> rfl
@[simp] theorem sm_cells_slice_t {t:Option Nat} {z:Nat} {es:List (List V)}:V.cells (.slice t z es:V) = [.slice t z es]:=by cases t <;> rfl
@[simp] theorem loadG_imm {v:V}:loadG .imm v = v:=rfl
@[simp] theorem loadG_loc {i:Nat} {v:V}:loadG (.loc i) v = v:=rfl
@[simp] theorem loadG_glob {v:V}:loadG .glob v = v.shed:=rfl
def clB (L:CallF) (d:Option Nat) (reg:List (Nat × Nat)) (S:St) (os:List VOp) (keep:Keep) (k:Post):V × List GObj → Prop:=fun r =>
 r.1.lone = true ∧ opk L os keep k ({ S with toks:=(recv reg r.1).2 ++ S.toks }.put d (recv reg r.1).1)
@[simp] theorem clB_eq {L:CallF} {d:Option Nat} {reg:List (Nat × Nat)} {S:St} {os:List VOp} {keep:Keep} {k:Post} {r:V} {G:List GObj} :
  clB L d reg S os keep k (r,G) = (r.lone = true ∧ opk L os keep k ({ S with toks:=(recv reg r).2 ++ S.toks }.put d (recv reg r).1)):=rfl
def clA (L:CallF) (d:Option Nat) (g:FuncId) (reg:List (Nat × Nat)) (S:St) (os:List VOp) (keep:Keep) (k:Post):List V → Prop:=fun vs => bnd (L g vs []) (clB L d reg S os keep k)
@[simp] theorem clA_eq {L:CallF} {d:Option Nat} {g:FuncId} {reg:List (Nat × Nat)} {S:St} {os:List VOp} {keep:Keep} {k:Post} {vs:List V} :
  clA L d g reg S os keep k vs = bnd (L g vs []) (clB L d reg S os keep k):=rfl
@[simp high] theorem opk_call_t {L:CallF} {d:Option Nat} {g:FuncId} {args:List (Sh × Opd)} {reg:List (Nat × Nat)} {os:List VOp} {keep:Keep} {k:Post} {S:St} :
  opk L (⟨d,.call true (.c (.fn g [])) args reg,none⟩ :: os) keep k S = bnd (pargs S args) (clA L d g reg S os keep k):=by
 rw [opk_guard]
 simp only [VOp.run,VO.run,St.ev]
 cases pargs S args with
 | none => simp [bnd]
 | some vs =>
   simp only [bnd_some,clA_eq]
   rcases L g vs [] with _ | ⟨r,G⟩
   ·simp [bnd]
   ·simp only [bnd_some,clB_eq]
    cases r.lone <;> simp [bnd]
def glB (L:CallF) (d:Option Nat) (reg:List (Nat × Nat)) (S:St) (os:List VOp) (keep:Keep) (k:Post):V × List GObj → Prop:=fun r =>
 opk L os keep k ({ S with glob:=r.2,toks:=(recv reg r.1).2 ++ S.toks }.put d (recv reg r.1).1)
@[simp] theorem glB_eq {L:CallF} {d:Option Nat} {reg:List (Nat × Nat)} {S:St} {os:List VOp} {keep:Keep} {k:Post} {r:V} {G:List GObj} :
  glB L d reg S os keep k (r,G) = opk L os keep k ({ S with glob:=G,toks:=(recv reg r).2 ++ S.toks }.put d (recv reg r).1):=rfl
def glA (L:CallF) (d:Option Nat) (g:FuncId) (cap:List V) (reg:List (Nat × Nat)) (S:St) (os:List VOp) (keep:Keep) (k:Post):List V → Prop:=fun vs => bnd (L g (vs ++ cap) S.glob) (glB L d reg S os keep k)
@[simp] theorem glA_eq {L:CallF} {d:Option Nat} {g:FuncId} {cap:List V} {reg:List (Nat × Nat)} {S:St} {os:List VOp} {keep:Keep} {k:Post} {vs:List V} :
  glA L d g cap reg S os keep k vs = bnd (L g (vs ++ cap) S.glob) (glB L d reg S os keep k):=rfl
def glF (L:CallF) (d:Option Nat) (args:List (Sh × Opd)) (reg:List (Nat × Nat)) (S:St) (os:List VOp) (keep:Keep) (k:Post):V → Prop:=fun f => match f with
 | .fn g cap => bnd (gargs S args) (glA L d g cap reg S os keep k)
 | _ => False
@[simp] theorem glF_eq {L:CallF} {d:Option Nat} {args:List (Sh × Opd)} {reg:List (Nat × Nat)} {S:St} {os:List VOp} {keep:Keep} {k:Post} {g:FuncId} {cap:List V} :
  glF L d args reg S os keep k (.fn g cap) = bnd (gargs S args) (glA L d g cap reg S os keep k):=rfl
@[simp high] theorem opk_call_f {L:CallF} {d:Option Nat} {f:Opd} {args:List (Sh × Opd)} {reg:List (Nat × Nat)} {os:List VOp} {keep:Keep} {k:Post} {S:St} :
  opk L (⟨d,.call false f args reg,none⟩ :: os) keep k S = bnd (S.ev f) (glF L d args reg S os keep k):=by
 rw [opk_guard]
 simp only [VOp.run,VO.run]
 rcases S.ev f with _ | v
 ·simp [bnd]
 ·simp only [bnd_some]
  cases v with
  | fn g cap =>
    simp only [glF_eq]
    cases gargs S args with
    | none => simp [bnd]
    | some vs =>
      simp only [bnd_some,glA_eq]
      rcases L g (vs ++ cap) S.glob with _ | ⟨r,G⟩
      ·simp [bnd]
      ·simp
  | _ => simp [bnd,glF]
def rcB (L:CallF) (d:Option Nat) (S:St) (os:List VOp) (keep:Keep) (k:Post):V × List GObj → Prop:=fun r =>
 r.2 = S.glob ∧ opk L os keep k (S.put d (recv [] r.1).1)
@[simp] theorem rcB_eq {L:CallF} {d:Option Nat} {S:St} {os:List VOp} {keep:Keep} {k:Post} {r:V} {G:List GObj} :
  rcB L d S os keep k (r,G) = (G = S.glob ∧ opk L os keep k (S.put d (recv [] r).1)):=rfl
def rcA (L:CallF) (d:Option Nat) (g:FuncId) (cap:List V) (S:St) (os:List VOp) (keep:Keep) (k:Post):List V → Prop:=fun vs => bnd (L g (vs ++ cap) S.glob) (rcB L d S os keep k)
@[simp] theorem rcA_eq {L:CallF} {d:Option Nat} {g:FuncId} {cap:List V} {S:St} {os:List VOp} {keep:Keep} {k:Post} {vs:List V} :
  rcA L d g cap S os keep k vs = bnd (L g (vs ++ cap) S.glob) (rcB L d S os keep k):=rfl
def rcF (L:CallF) (d:Option Nat) (args:List (Sh × Opd)) (S:St) (os:List VOp) (keep:Keep) (k:Post):V → Prop:=fun f => match f with
 | .fn g cap => bnd (gargs S args) (rcA L d g cap S os keep k)
 | _ => False
@[simp] theorem rcF_eq {L:CallF} {d:Option Nat} {args:List (Sh × Opd)} {S:St} {os:List VOp} {keep:Keep} {k:Post} {g:FuncId} {cap:List V} :
  rcF L d args S os keep k (.fn g cap) = bnd (gargs S args) (rcA L d g cap S os keep k):=rfl
@[simp high] theorem opk_rcall {L:CallF} {d:Option Nat} {f:Opd} {args:List (Sh × Opd)} {os:List VOp} {keep:Keep} {k:Post} {S:St} :
  opk L (⟨d,.rcall f args,none⟩ :: os) keep k S = bnd (S.ev f) (rcF L d args S os keep k):=by
 rw [opk_guard]
 simp only [VOp.run,VO.run]
 rcases S.ev f with _ | v
 ·simp [bnd]
 ·simp only [bnd_some]
  cases v with
  | fn g cap =>
    simp only [rcF_eq]
    cases gargs S args with
    | none => simp [bnd]
    | some vs =>
      simp only [bnd_some,rcA_eq]
      rcases L g (vs ++ cap) S.glob with _ | ⟨r,G⟩
      ·simp [bnd]
      ·simp only [bnd_some,rcB_eq,rd]
       by_cases h:G = S.glob
       ·simp [h]
       ·simp [h,bnd]
  | _ => simp [bnd,rcF]
def owC (L:CallF) (d:Option Nat) (id:Nat) (S:St) (os:List VOp) (keep:Keep) (k:Post):V × Option (List V) → Prop:=fun p => match p.2 with
 | some cs => opk L os keep k ({ S with objs:=(id,cs) :: S.objs }.put d p.1)
 | none => opk L os keep k (S.put d p.1)
@[simp] theorem owC_some {L:CallF} {d:Option Nat} {id:Nat} {S:St} {os:List VOp} {keep:Keep} {k:Post} {v:V} {cs:List V} :
  owC L d id S os keep k (v,some cs) = opk L os keep k ({ S with objs:=(id,cs) :: S.objs }.put d v):=rfl
@[simp] theorem owC_none {L:CallF} {d:Option Nat} {id:Nat} {S:St} {os:List VOp} {keep:Keep} {k:Post} {v:V} :
  owC L d id S os keep k (v,none) = opk L os keep k (S.put d v):=rfl
def owB (L:CallF) (d:Option Nat) (id pos:Nat) (S:St) (os:List VOp) (keep:Keep) (k:Post):V × List GObj → Prop:=fun r => bnd (ownV id pos r.1) (owC L d id S os keep k)
@[simp] theorem owB_eq {L:CallF} {d:Option Nat} {id pos:Nat} {S:St} {os:List VOp} {keep:Keep} {k:Post} {r:V} {G:List GObj} :
  owB L d id pos S os keep k (r,G) = bnd (ownV id pos r) (owC L d id S os keep k):=rfl
def owA (L:CallF) (d:Option Nat) (g:FuncId) (id pos:Nat) (S:St) (os:List VOp) (keep:Keep) (k:Post):List V → Prop:=fun vs => bnd (L g vs []) (owB L d id pos S os keep k)
@[simp] theorem owA_eq {L:CallF} {d:Option Nat} {g:FuncId} {id pos:Nat} {S:St} {os:List VOp} {keep:Keep} {k:Post} {vs:List V} :
  owA L d g id pos S os keep k vs = bnd (L g vs []) (owB L d id pos S os keep k):=rfl
@[simp high] theorem opk_own {L:CallF} {d:Option Nat} {g:FuncId} {args:List (Sh × Opd)} {id pos:Nat} {os:List VOp} {keep:Keep} {k:Post} {S:St} :
  opk L (⟨d,.own (.c (.fn g [])) args id pos,none⟩ :: os) keep k S = bnd (pargs S args) (owA L d g id pos S os keep k):=by
 rw [opk_guard]
 simp only [VOp.run,VO.run,St.ev]
 cases pargs S args with
 | none => simp [bnd]
 | some vs =>
   simp only [bnd_some,owA_eq]
   rcases L g vs [] with _ | ⟨r,G⟩
   ·simp [bnd]
   ·simp only [bnd_some,owB_eq]
    rcases ownV id pos r with _ | ⟨v,_ | cs⟩
    ·simp [bnd]
    ·simp
    ·simp
def gcnd (w:Bool) (o:Option V) (A B:Prop):Prop:=match o with
 | some (.bool b) => bif b == w then A else B
 | some .undef => B
 | _ => False
@[simp] theorem gcnd_t {b:Bool} {A B:Prop}:gcnd true (some (.bool b)) A B = cnd (some (.bool b)) A B:=by cases b <;> simp [gcnd]
@[simp] theorem gcnd_f {b:Bool} {A B:Prop}:gcnd false (some (.bool b)) A B = cnd (some (.bool b)) B A:=by cases b <;> simp [gcnd]
@[simp] theorem gcnd_u {w:Bool} {A B:Prop}:gcnd w (some .undef) A B = B:=rfl
@[simp] theorem gcnd_gif {w b:Bool} {x y:V} {A B:Prop}:gcnd w (some (gif b x y)) A B = cnd (some (.bool b)) (gcnd w (some x) A B) (gcnd w (some y) A B):=by cases b <;> simp
@[simp high] theorem opk_call_g {L:CallF} {d:Option Nat} {al:Bool} {f:Opd} {args:List (Sh × Opd)} {reg:List (Nat × Nat)} {g:Nat} {w:Bool} {os:List VOp} {keep:Keep} {k:Post} {S:St} :
  opk L (⟨d,.call al f args reg,some (g,w)⟩ :: os) keep k S = gcnd w (look g S.env) (opk L (⟨d,.call al f args reg,none⟩ :: os) keep k S) (opk L os keep k (S.put d .undef)):=by
 rw [opk_guard,opk_guard]
 simp only [VOp.run]
 rcases look g S.env with _ | v
 ·simp [bnd,gcnd]
 ·cases v with
  | bool b => simp only [gcnd];cases b == w <;> simp
  | undef => simp [gcnd]
  | _ => simp [bnd,gcnd]
@[simp high] theorem opk_rcall_g {L:CallF} {d:Option Nat} {f:Opd} {args:List (Sh × Opd)} {g:Nat} {w:Bool} {os:List VOp} {keep:Keep} {k:Post} {S:St} :
  opk L (⟨d,.rcall f args,some (g,w)⟩ :: os) keep k S = gcnd w (look g S.env) (opk L (⟨d,.rcall f args,none⟩ :: os) keep k S) (opk L os keep k (S.put d .undef)):=by
 rw [opk_guard,opk_guard]
 simp only [VOp.run]
 rcases look g S.env with _ | v
 ·simp [bnd,gcnd]
 ·cases v with
  | bool b => simp only [gcnd];cases b == w <;> simp
  | undef => simp [gcnd]
  | _ => simp [bnd,gcnd]
theorem recv_agg {reg:List (Nat × Nat)} {cs:List V}:recv reg (.agg cs) = (.agg (recvL reg 0 cs).1,(recvL reg 0 cs).2):=rfl
theorem recv_tuple {reg:List (Nat × Nat)} {cs:List V}:recv reg (.tuple cs) = (.tuple (recvL reg 0 cs).1,(recvL reg 0 cs).2):=rfl
attribute [simp] recv_agg recv_tuple
@[simp] theorem recvL_nil {reg:List (Nat × Nat)} {i:Nat}:recvL reg i [] = ([],[]):=rfl
@[simp] theorem recvL_noreg {i:Nat}:∀ {vs:List V},recvL [] i vs = (vs.map strip,[])
 | [] => rfl
 | v :: vs => by
   simp only [recvL,recvL_noreg (i:=i + 1) (vs:=vs)]
   cases v with
   | slice t n es => cases t <;> rfl
   | _ => rfl
def rgS (o:Option Nat) (n:Nat) (es:List (List V)) (r:List V × List (Nat × Nat)):List V × List (Nat × Nat):=match o with
 | some f => (.slice (some f) n es :: r.1,(f,es.length) :: r.2)
 | none => (.slice none n es :: r.1,r.2)
@[simp] theorem rgS_some {f n:Nat} {es:List (List V)} {r:List V × List (Nat × Nat)}:rgS (some f) n es r = (.slice (some f) n es :: r.1,(f,es.length) :: r.2):=rfl
@[simp] theorem rgS_none {n:Nat} {es:List (List V)} {r:List V × List (Nat × Nat)}:rgS none n es r = (.slice none n es :: r.1,r.2):=rfl
@[simp] theorem recvL_slice {reg:List (Nat × Nat)} {i n t:Nat} {es:List (List V)} {vs:List V}:recvL reg i (.slice (some t) n es :: vs) = rgS (look i reg) n es (recvL reg (i + 1) vs):=by
 simp only [recvL]
 cases look i reg <;> rfl
@[simp] theorem recvL_int {reg:List (Nat × Nat)} {j:Nat} {us:List V} {k:IntKind} {n:Int}:recvL reg j ((.int k n:V) :: us) = (strip (.int k n:V) :: (recvL reg (j + 1) us).1,(recvL reg (j + 1) us).2):=rfl
@[simp] theorem recv_int {reg:List (Nat × Nat)} {k:IntKind} {n:Int}:recv reg (.int k n:V) = (strip (.int k n:V),[]):=rfl
@[simp] theorem recvL_bool {reg:List (Nat × Nat)} {j:Nat} {us:List V} {b:Bool}:recvL reg j ((.bool b:V) :: us) = (strip (.bool b:V) :: (recvL reg (j + 1) us).1,(recvL reg (j + 1) us).2):=rfl
@[simp] theorem recv_bool {reg:List (Nat × Nat)} {b:Bool}:recv reg (.bool b:V) = (strip (.bool b:V),[]):=rfl
@[simp] theorem recvL_str {reg:List (Nat × Nat)} {j:Nat} {us:List V} {s:List UInt8}:recvL reg j ((.str s:V) :: us) = (strip (.str s:V) :: (recvL reg (j + 1) us).1,(recvL reg (j + 1) us).2):=rfl
@[simp] theorem recv_str {reg:List (Nat × Nat)} {s:List UInt8}:recv reg (.str s:V) = (strip (.str s:V),[]):=rfl
@[simp] theorem recvL_nils {reg:List (Nat × Nat)} {j:Nat} {us:List V} :recvL reg j ((.nils:V) :: us) = (strip (.nils:V) :: (recvL reg (j + 1) us).1,(recvL reg (j + 1) us).2):=rfl
@[simp] theorem recv_nils {reg:List (Nat × Nat)} :recv reg (.nils:V) = (strip (.nils:V),[]):=rfl
@[simp] theorem recvL_slice_n {reg:List (Nat × Nat)} {j:Nat} {us:List V} {z:Nat} {es:List (List V)}:recvL reg j ((.slice none z es:V) :: us) = (strip (.slice none z es:V) :: (recvL reg (j + 1) us).1,(recvL reg (j + 1) us).2):=rfl
@[simp] theorem recv_slice_n {reg:List (Nat × Nat)} {z:Nat} {es:List (List V)}:recv reg (.slice none z es:V) = (strip (.slice none z es:V),[]):=rfl
@[simp] theorem recvL_agg {reg:List (Nat × Nat)} {j:Nat} {us:List V} {cs:List V}:recvL reg j ((.agg cs:V) :: us) = (strip (.agg cs:V) :: (recvL reg (j + 1) us).1,(recvL reg (j + 1) us).2):=rfl
@[simp] theorem recvL_tuple {reg:List (Nat × Nat)} {j:Nat} {us:List V} {vs:List V}:recvL reg j ((.tuple vs:V) :: us) = (strip (.tuple vs:V) :: (recvL reg (j + 1) us).1,(recvL reg (j + 1) us).2):=rfl
@[simp] theorem recvL_eptr {reg:List (Nat × Nat)} {j:Nat} {us:List V} {r:List V} {o:Nat}:recvL reg j ((.eptr r o:V) :: us) = (strip (.eptr r o:V) :: (recvL reg (j + 1) us).1,(recvL reg (j + 1) us).2):=rfl
@[simp] theorem recv_eptr {reg:List (Nat × Nat)} {r:List V} {o:Nat}:recv reg (.eptr r o:V) = (strip (.eptr r o:V),[]):=rfl
@[simp] theorem recvL_lptr {reg:List (Nat × Nat)} {j:Nat} {us:List V} {i o:Nat}:recvL reg j ((.lptr i o:V) :: us) = (strip (.lptr i o:V) :: (recvL reg (j + 1) us).1,(recvL reg (j + 1) us).2):=rfl
@[simp] theorem recv_lptr {reg:List (Nat × Nat)} {i o:Nat}:recv reg (.lptr i o:V) = (strip (.lptr i o:V),[]):=rfl
@[simp] theorem recvL_lref {reg:List (Nat × Nat)} {j:Nat} {us:List V} {i o l:Nat}:recvL reg j ((.lref i o l:V) :: us) = (strip (.lref i o l:V) :: (recvL reg (j + 1) us).1,(recvL reg (j + 1) us).2):=rfl
@[simp] theorem recv_lref {reg:List (Nat × Nat)} {i o l:Nat}:recv reg (.lref i o l:V) = (strip (.lref i o l:V),[]):=rfl
@[simp] theorem recvL_gptr {reg:List (Nat × Nat)} {j:Nat} {us:List V} {i o:Nat}:recvL reg j ((.gptr i o:V) :: us) = (strip (.gptr i o:V) :: (recvL reg (j + 1) us).1,(recvL reg (j + 1) us).2):=rfl
@[simp] theorem recv_gptr {reg:List (Nat × Nat)} {i o:Nat}:recv reg (.gptr i o:V) = (strip (.gptr i o:V),[]):=rfl
@[simp] theorem recvL_nilptr {reg:List (Nat × Nat)} {j:Nat} {us:List V} :recvL reg j ((.nilptr:V) :: us) = (strip (.nilptr:V) :: (recvL reg (j + 1) us).1,(recvL reg (j + 1) us).2):=rfl
@[simp] theorem recv_nilptr {reg:List (Nat × Nat)} :recv reg (.nilptr:V) = (strip (.nilptr:V),[]):=rfl
@[simp] theorem recvL_fn {reg:List (Nat × Nat)} {j:Nat} {us:List V} {f:FuncId} {c:List V}:recvL reg j ((.fn f c:V) :: us) = (strip (.fn f c:V) :: (recvL reg (j + 1) us).1,(recvL reg (j + 1) us).2):=rfl
@[simp] theorem recv_fn {reg:List (Nat × Nat)} {f:FuncId} {c:List V}:recv reg (.fn f c:V) = (strip (.fn f c:V),[]):=rfl
@[simp] theorem recvL_nilfn {reg:List (Nat × Nat)} {j:Nat} {us:List V} :recvL reg j ((.nilfn:V) :: us) = (strip (.nilfn:V) :: (recvL reg (j + 1) us).1,(recvL reg (j + 1) us).2):=rfl
@[simp] theorem recv_nilfn {reg:List (Nat × Nat)} :recv reg (.nilfn:V) = (strip (.nilfn:V),[]):=rfl
@[simp] theorem recvL_map {reg:List (Nat × Nat)} {j:Nat} {us:List V} {i:Nat}:recvL reg j ((.map i:V) :: us) = (strip (.map i:V) :: (recvL reg (j + 1) us).1,(recvL reg (j + 1) us).2):=rfl
@[simp] theorem recv_map {reg:List (Nat × Nat)} {i:Nat}:recv reg (.map i:V) = (strip (.map i:V),[]):=rfl
@[simp] theorem recvL_nilmap {reg:List (Nat × Nat)} {j:Nat} {us:List V} :recvL reg j ((.nilmap:V) :: us) = (strip (.nilmap:V) :: (recvL reg (j + 1) us).1,(recvL reg (j + 1) us).2):=rfl
@[simp] theorem recv_nilmap {reg:List (Nat × Nat)} :recv reg (.nilmap:V) = (strip (.nilmap:V),[]):=rfl
@[simp] theorem recvL_undef {reg:List (Nat × Nat)} {j:Nat} {us:List V} :recvL reg j ((.undef:V) :: us) = (strip (.undef:V) :: (recvL reg (j + 1) us).1,(recvL reg (j + 1) us).2):=rfl
@[simp] theorem recv_undef {reg:List (Nat × Nat)} :recv reg (.undef:V) = (strip (.undef:V),[]):=rfl
@[simp] theorem recv_slice {reg:List (Nat × Nat)} {n t:Nat} {es:List (List V)}:recv reg (.slice (some t) n es) = match recvL reg 0 [.slice (some t) n es] with
  |([u],ts) => (u,ts)
  | _ => (.undef,[]):=rfl
theorem elsAll_ints {α:Type} (g:α → Int):∀ l:List α,elsAll [none] (l.map fun j => [V.int .i64 (g j)]) = some (l.map fun j => [V.int .i64 (g j)])
 | [] => rfl
 | a :: l => by simp [elsAll,els,el,elsAll_ints g l]
theorem chunks_one {sz:Nat}:∀ (cs:List V) (off n:Nat),sz = 1 → off + n ≤ cs.length → chunks sz cs off n = ((cs.drop off).take n).map fun v => [v]
 | cs,off,0,_,_ => by simp [chunks]
 | cs,off,n + 1,h,hn => by
   subst h
   rw [chunks,chunks_one cs (off + 1) n rfl (by omega),List.drop_eq_getElem_cons (show off < cs.length by omega)]
   simp only [List.take_succ_cons,List.take_zero,List.map_cons]
@[simp] theorem chunks_tab {n:Nat} {f:Nat → Int}:elsAll [none] (chunks 1 (tab n f) 0 n) = some ((List.range n).map fun j => [V.int .i64 (f j)]):=by
 rw [chunks_one _ _ _ rfl (by simp)]
 rw [List.drop_zero,tab_take,tab,List.map_map]
 exact elsAll_ints f _
theorem repl_tab {n:Nat}:List.replicate n (V.int .i64 0) = tab n fun _ => 0:=by
 rw [← tab_zero,rep]
@[simp] theorem flat_tab {n:Nat}:(List.replicate n [V.int .i64 0]).flatten = tab n fun _ => 0:=by
 rw [← tab_zero,rep]
 simp
@[simp] theorem sm_ren_undef  {x y:Nat}:V.ren x y (.undef:V) = .undef:=rfl
@[simp] theorem sm_forget_undef  {x:Nat}:V.forget x (.undef:V) = .undef:=rfl
@[simp] theorem sm_ren_int {k:IntKind} {n:Int} {x y:Nat}:V.ren x y (.int k n:V) = .int k n:=rfl
@[simp] theorem sm_forget_int {k:IntKind} {n:Int} {x:Nat}:V.forget x (.int k n:V) = .int k n:=rfl
@[simp] theorem sm_ren_bool {b:Bool} {x y:Nat}:V.ren x y (.bool b:V) = .bool b:=rfl
@[simp] theorem sm_forget_bool {b:Bool} {x:Nat}:V.forget x (.bool b:V) = .bool b:=rfl
@[simp] theorem sm_ren_str {s:List UInt8} {x y:Nat}:V.ren x y (.str s:V) = .str s:=rfl
@[simp] theorem sm_forget_str {s:List UInt8} {x:Nat}:V.forget x (.str s:V) = .str s:=rfl
@[simp] theorem sm_ren_nils  {x y:Nat}:V.ren x y (.nils:V) = .nils:=rfl
@[simp] theorem sm_forget_nils  {x:Nat}:V.forget x (.nils:V) = .nils:=rfl
@[simp] theorem sm_ren_slice_n {z:Nat} {es:List (List V)} {x y:Nat}:V.ren x y (.slice none z es:V) = .slice none z es:=rfl
@[simp] theorem sm_forget_slice_n {z:Nat} {es:List (List V)} {x:Nat}:V.forget x (.slice none z es:V) = .slice none z es:=rfl
@[simp] theorem sm_ren_slice_s {t z:Nat} {es:List (List V)} {x y:Nat}:V.ren x y (.slice (some t) z es:V) = .slice (some t) z es:=rfl
@[simp] theorem sm_forget_slice_s {t z:Nat} {es:List (List V)} {x:Nat}:V.forget x (.slice (some t) z es:V) = bif t == x then .slice none z es else .slice (some t) z es:=rfl
@[simp] theorem sm_ren_agg {cs:List V} {x y:Nat}:V.ren x y (.agg cs:V) = .agg cs:=rfl
@[simp] theorem sm_forget_agg {cs:List V} {x:Nat}:V.forget x (.agg cs:V) = .agg cs:=rfl
@[simp] theorem sm_ren_tuple {vs:List V} {x y:Nat}:V.ren x y (.tuple vs:V) = .tuple vs:=rfl
@[simp] theorem sm_forget_tuple {vs:List V} {x:Nat}:V.forget x (.tuple vs:V) = .tuple vs:=rfl
@[simp] theorem sm_ren_eptr {r:List V} {o:Nat} {x y:Nat}:V.ren x y (.eptr r o:V) = .eptr r o:=rfl
@[simp] theorem sm_forget_eptr {r:List V} {o:Nat} {x:Nat}:V.forget x (.eptr r o:V) = .eptr r o:=rfl
@[simp] theorem sm_ren_lptr {i o:Nat} {x y:Nat}:V.ren x y (.lptr i o:V) = .lptr i o:=rfl
@[simp] theorem sm_forget_lptr {i o:Nat} {x:Nat}:V.forget x (.lptr i o:V) = .lptr i o:=rfl
@[simp] theorem sm_ren_lref {i o l:Nat} {x y:Nat}:V.ren x y (.lref i o l:V) = bif i == x then .lref y o l else .lref i o l:=rfl
@[simp] theorem sm_forget_lref {i o l:Nat} {x:Nat}:V.forget x (.lref i o l:V) = .lref i o l:=rfl
@[simp] theorem sm_ren_gptr {i o:Nat} {x y:Nat}:V.ren x y (.gptr i o:V) = .gptr i o:=rfl
@[simp] theorem sm_forget_gptr {i o:Nat} {x:Nat}:V.forget x (.gptr i o:V) = .gptr i o:=rfl
@[simp] theorem sm_ren_nilptr  {x y:Nat}:V.ren x y (.nilptr:V) = .nilptr:=rfl
@[simp] theorem sm_forget_nilptr  {x:Nat}:V.forget x (.nilptr:V) = .nilptr:=rfl
@[simp] theorem sm_ren_fn {f:FuncId} {c:List V} {x y:Nat}:V.ren x y (.fn f c:V) = .fn f c:=rfl
@[simp] theorem sm_forget_fn {f:FuncId} {c:List V} {x:Nat}:V.forget x (.fn f c:V) = .fn f c:=rfl
@[simp] theorem sm_ren_nilfn  {x y:Nat}:V.ren x y (.nilfn:V) = .nilfn:=rfl
@[simp] theorem sm_forget_nilfn  {x:Nat}:V.forget x (.nilfn:V) = .nilfn:=rfl
@[simp] theorem sm_ren_map {i:Nat} {x y:Nat}:V.ren x y (.map i:V) = .map i:=rfl
@[simp] theorem sm_forget_map {i:Nat} {x:Nat}:V.forget x (.map i:V) = .map i:=rfl
@[simp] theorem sm_ren_nilmap  {x y:Nat}:V.ren x y (.nilmap:V) = .nilmap:=rfl
@[simp] theorem sm_forget_nilmap  {x:Nat}:V.forget x (.nilmap:V) = .nilmap:=rfl
def icells (l:List Int):List V:=l.map fun n => .int .i64 n
@[simp] theorem icells_len {l:List Int}:(icells l).length = l.length:=by simp [icells]
@[simp] theorem icells_set {l:List Int} {i:Nat} {v:Int}:(icells l).set i (.int .i64 v) = icells (l.set i v):=by simp [icells]
theorem icells_get {l:List Int} {i:Nat} (h:i < l.length):(icells l)[i]? = some (.int .i64 (nth l i)):=by simp [icells,get_int h]
@[simp] theorem icells_men {l:List Int} {d:Nat}:(icells l).all (fun v => !v.men0 d) = true:=by simp [icells,V.men0]
@[simp] theorem icells_flat {l:List Int}:(l.map fun n => [V.int .i64 n]).flatten = icells l:=by
 induction l with
 | nil => rfl
 | cons a l ih => simp only [List.map_cons,List.flatten_cons,ih];rfl
@[simp] theorem icells_rows {l:List Int} {n:Nat} (h:n = l.length):elsAll [none] (chunks 1 (icells l) 0 n) = some (l.map fun n => [V.int .i64 n]):=by
 subst h
 rw [chunks_one _ _ _ rfl (by simp)]
 rw [List.drop_zero,List.take_of_length_le (by simp),icells,List.map_map]
 exact elsAll_ints (fun n => n) l
@[simp] theorem icells_append {l m:List Int}:icells l ++ icells m = icells (l ++ m):=by simp [icells]
@[simp] theorem icells_append1 {l:List Int} {a:Int}:icells l ++ [V.int .i64 a] = icells (l ++ [a]):=by simp [icells]
def kp {α:Type} (o:Option α) (s:Nat) (r:List (Nat × α)):List (Nat × α):=match o with
 | some v => (s,v) :: r
 | none => r
@[simp] theorem kp_some {α:Type} {v:α} {s:Nat} {r:List (Nat × α)}:kp (some v) s r = (s,v) :: r:=rfl
@[simp] theorem kp_none {α:Type} {s:Nat} {r:List (Nat × α)}:kp none s r = r:=rfl
@[simp low] theorem keepL_cons {α:Type} {env:List (Nat × α)} {s:Nat} {l:List Nat}:keepL env (s :: l) = kp (look s env) s (keepL env l):=by
 simp only [keepL]
 cases look s env <;> rfl
@[simp low] theorem keepL_nil {α:Type} {env:List (Nat × α)}:keepL env [] = []:=rfl
attribute [simp] gcel gcels St.take St.give ghosts VOp.run VO.run St.ev zipEnv St.put V.bin intBin St.keep retVal retVars retVar ret1 rets gel gels el els
 Root.fits St.cellsAt loadAt St.fits setAll pargs parg gargs garg V.un oneOrAgg St.evOr fillParts fillRows evs gcaps St.normCell Ghost.run St.rows St.objRows
@[simp] theorem nat_ble {a b:Nat}:Nat.ble a b = decide (a ≤ b):=by
 by_cases h:a ≤ b
 ·simp [h,Nat.ble_eq]
 ·simp only [h,decide_false]
  exact Bool.eq_false_iff.2 (fun e => h (Nat.le_of_ble_eq_true e))
@[simp] theorem nat_blt {a b:Nat}:Nat.blt a b = decide (a < b):=by
 rw [Nat.blt,nat_ble];rfl
attribute [simp] List.getElem?_cons_zero List.getElem?_cons_succ
theorem gl0 {G r:List GObj} {a:GObj}:(G ++ a :: r)[G.length]? = some a:=by simp
theorem gl1 {G r:List GObj} {a b:GObj}:(G ++ a :: b :: r)[G.length + 1]? = some b:=by
 rw [List.getElem?_append_right (by omega)];simp
theorem gset {G r:List GObj} {a b:GObj}:(G ++ a :: r).set G.length b = G ++ b :: r:=by simp
def lrg (S:St) (ids:List Nat) (rs sh:Sh):Option V → Option V
 | some (.lref id s n) => S.lent ids rs id s n
 | some v => parg sh v
 | none => none
@[simp] theorem largs_nil {S:St} {ids:List Nat}:largs S ids [] = some []:=rfl
@[simp] theorem largs_cons {S:St} {ids:List Nat} {rs sh:Sh} {x:Opd} {xs:List (Sh × Sh × Opd)}:largs S ids ((rs,sh,x) :: xs) = match lrg S ids rs sh (S.ev x),largs S ids xs with
  | some u,some us => some (u :: us)
  | _,_ => none:=by
 simp only [largs]
 rcases S.ev x with _ | v
 ·rfl
 ·cases v <;> rfl
@[simp] theorem lrg_lref {S:St} {ids:List Nat} {rs sh:Sh} {id s n:Nat}:lrg S ids rs sh (some (.lref id s n)) = bif ids.contains id then (match S.objRows rs (.lref id s n) with | some es => some (V.slice none rs.length es) | none => none) else none:=rfl
@[simp] theorem lrg_int {S:St} {ids:List Nat} {rs sh:Sh} {k:IntKind} {n:Int}:lrg S ids rs sh (some (.int k n)) = parg sh (.int k n):=rfl
@[simp] theorem lrg_bool {S:St} {ids:List Nat} {rs sh:Sh} {b:Bool}:lrg S ids rs sh (some (.bool b)) = parg sh (.bool b):=rfl
@[simp] theorem lrg_str {S:St} {ids:List Nat} {rs sh:Sh} {s:List UInt8}:lrg S ids rs sh (some (.str s)) = parg sh (.str s):=rfl
@[simp] theorem lrg_nils {S:St} {ids:List Nat} {rs sh:Sh}:lrg S ids rs sh (some .nils) = parg sh .nils:=rfl
@[simp] theorem lrg_slice {S:St} {ids:List Nat} {rs sh:Sh} {t:Option Nat} {n:Nat} {es:List (List V)}:lrg S ids rs sh (some (.slice t n es)) = parg sh (.slice t n es):=rfl
@[simp] theorem lrg_zed {S:St} {ids:List Nat} {rs sh:Sh} {n:Nat}:lrg S ids rs sh (some (.zed n)) = parg sh (.zed n):=rfl
@[simp] theorem lrg_agg {S:St} {ids:List Nat} {rs sh:Sh} {cs:List V}:lrg S ids rs sh (some (.agg cs)) = parg sh (.agg cs):=rfl
def lcB (L:CallF) (d:Option Nat) (S:St) (os:List VOp) (keep:Keep) (k:Post):V × List GObj → Prop:=fun r => r.1.scal = true ∧ opk L os keep k (S.put d r.1)
@[simp] theorem lcB_eq {L:CallF} {d:Option Nat} {S:St} {os:List VOp} {keep:Keep} {k:Post} {r:V} {G:List GObj}:lcB L d S os keep k (r,G) = (r.scal = true ∧ opk L os keep k (S.put d r)):=rfl
def lcA (L:CallF) (d:Option Nat) (g:FuncId) (S:St) (os:List VOp) (keep:Keep) (k:Post):List V → Prop:=fun vs => bnd (L g vs []) (lcB L d S os keep k)
@[simp] theorem lcA_eq {L:CallF} {d:Option Nat} {g:FuncId} {S:St} {os:List VOp} {keep:Keep} {k:Post} {vs:List V}:lcA L d g S os keep k vs = bnd (L g vs []) (lcB L d S os keep k):=rfl
@[simp high] theorem opk_lcall {L:CallF} {d:Option Nat} {g:FuncId} {args:List (Sh × Sh × Opd)} {ids:List Nat} {os:List VOp} {keep:Keep} {k:Post} {S:St} :
  opk L (⟨d,.lcall (.c (.fn g [])) args ids,none⟩ :: os) keep k S = bnd (largs S ids args) (lcA L d g S os keep k):=by
 rw [opk_guard]
 simp only [VOp.run,VO.run,St.ev]
 cases largs S ids args with
 | none => simp [bnd]
 | some vs =>
   simp only [bnd_some,lcA_eq]
   rcases L g vs [] with _ | ⟨r,G⟩
   ·simp [bnd]
   ·simp only [bnd_some,lcB_eq]
    cases r.scal <;> simp [bnd]
@[simp high] theorem opk_lcall_g {L:CallF} {d:Option Nat} {f:Opd} {args:List (Sh × Sh × Opd)} {ids:List Nat} {g:Nat} {w:Bool} {os:List VOp} {keep:Keep} {k:Post} {S:St} :
  opk L (⟨d,.lcall f args ids,some (g,w)⟩ :: os) keep k S = gcnd w (look g S.env) (opk L (⟨d,.lcall f args ids,none⟩ :: os) keep k S) (opk L os keep k (S.put d .undef)):=by
 rw [opk_guard,opk_guard]
 simp only [VOp.run]
 rcases look g S.env with _ | v
 ·simp [bnd,gcnd]
 ·cases v with
  | bool b => simp only [gcnd];cases b == w <;> simp
  | undef => simp [gcnd]
  | _ => simp [bnd,gcnd]
@[simp] theorem scal_int {k:IntKind} {n:Int}:V.scal (.int k n) = true:=rfl
@[simp] theorem scal_bool {b:Bool}:V.scal (.bool b) = true:=rfl
@[simp] theorem scal_str {s:List UInt8}:V.scal (.str s) = true:=rfl
attribute [simp] V.scal V.sc
end Go.Vm
