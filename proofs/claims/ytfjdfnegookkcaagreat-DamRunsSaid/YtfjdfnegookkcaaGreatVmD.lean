/- The value machine, 13: what an operation reads and writes; operations that touch different things may change places. -/
import Derived.Test.YtfjdfnegookkcaaGreatVmC
namespace Go.Vm
set_option linter.all false
inductive Key where
 | e (s:Nat)
 | o (id:Nat)
 | t (f:Nat)
 | g
 deriving DecidableEq
def same (S S':St):Key → Prop
 | .e s => look s S.env = look s S'.env
 | .o id => look id S.objs = look id S'.objs
 | .t f => look f S.toks = look f S'.toks
 | .g => S.glob = S'.glob
theorem same_refl (S:St) (k:Key):same S S k:=by cases k <;> rfl
theorem same_symm {S S':St} {k:Key} (h:same S S' k):same S' S k:=by cases k <;> exact Eq.symm h
theorem same_trans {S S' S'':St} {k:Key} (h:same S S' k) (h':same S' S'' k):same S S'' k:=by cases k <;> exact Eq.trans h h'
def Alike (S S':St):Prop:=∀ k,same S S' k
structure Out where
 v:Option V
 obj:Option (Nat × List V)
 toks:List (Nat × Nat)
 glob:Option (List GObj)
 del:Option Nat
def Out.val (v:V):Out:=⟨some v,none,[],none,none⟩
def Out.objs (u:Out) (objs:List (Nat × List V)):List (Nat × List V):=match u.obj with
 | some p => p :: (match u.del with | some i => objs.filter (fun q => !(q.1 == i)) | none => objs)
 | none => objs
def Out.app (u:Out) (d:Option Nat) (S:St):St :=
 let T:St:={ env:=S.env,objs:=u.objs S.objs,toks:=u.toks ++ S.toks,glob:=(match u.glob with | some G => G | none => S.glob) }
 match u.v with
 | some v => T.put d v
 | none => T
noncomputable def VO.eff (C:CallF) (S:St):VO → Option Out
 | .mv x => match S.ev x with
   | some v => some (.val v)
   | none => none
 | .pick c a b => match S.ev c with
   | some (.bool t) => match bif t then S.ev a else S.ev b with
     | some v => some (.val v)
     | none => none
   | _ => none
 | .obj id cells => some ⟨some (.lptr id 0),some (id,cells),[],none,none⟩
 | .box id x => match S.ev x with
   | some v => bif v.cells.all V.isCell then some ⟨some (.lptr id 0),some (id,v.cells),[],none,none⟩ else none
   | none => none
 | .gbox sh x => match S.ev x with
   | some v => match gcels sh v.cells with
     | some cs => some ⟨some (.gptr S.glob.length 0),none,[],some (S.glob ++ [GObj.cells cs]),none⟩
     | none => none
   | none => none
 | .galloc sh zero => match gcels sh zero with
   | some cs => some ⟨some (.gptr S.glob.length 0),none,[],some (S.glob ++ [GObj.cells cs]),none⟩
   | none => none
 | .mkmap => some ⟨some (.map S.glob.length),none,[],some (S.glob ++ [GObj.map []]),none⟩
 | .mapget ag ks zero ok x k => match S.ev x,S.ev k with
   | some (.map i),some kv => match S.glob[i]?,V.keq ag ks kv kv with
     | some (.map es),some _ => match mfind ag ks kv es 0 with
       | some (some (_,v)) => some (.val (bif ok then .tuple [v,.bool true] else v))
       | some none => some (.val (bif ok then .tuple [zero,.bool false] else zero))
       | none => none
     | _,_ => none
   | _,_ => none
 | .mapset ag ks sh x k y => match S.ev x,S.ev k,S.ev y with
   | some (.map i),some kv,some v => match S.glob[i]?,V.keq ag ks kv kv,garg sh v with
     | some (.map es),some _,some u => match mfind ag ks kv es 0 with
       | some (some (j,_)) => some ⟨none,none,[],some (S.glob.set i (GObj.map (es.set j (kv,u)))),none⟩
       | some none => some ⟨none,none,[],some (S.glob.set i (GObj.map (es ++ [(kv,u)]))),none⟩
       | none => none
     | _,_,_ => none
   | _,_,_ => none
 | .build zero parts => match fillParts S parts zero with
   | some cs => some (.val (.agg cs))
   | none => none
 | .lit tok sh zero ln parts => match fillRows S sh parts (List.replicate ln zero) with
   | some rs => match tok with
     | some f => some ⟨some (.slice (some f) sh.length rs),none,[(f,ln)],none,none⟩
     | none => some (.val (.slice none sh.length rs))
   | none => none
 | .load root sz p => match S.ev p with
   | some a => bif root.fits a then match S.cellsAt a with
     | some (cs,off) => match loadAt sz cs off with
       | some v => some (.val (loadG root v))
       | none => none
     | none => none
     else none
   | none => none
 | .gtake fam p => match S.ev p with
   | some a => match S.take fam a with
     | some (v,ts,G) => some ⟨some v,none,ts,G,none⟩
     | none => none
   | none => none
 | .gput fam p x => match S.ev p,S.ev x with
   | some a,some v => match S.give fam a v with
     | some (ts,G) => some ⟨none,none,ts,some G,none⟩
     | none => none
   | _,_ => none
 | .store root sh p x => bif S.fits root p then match S.ev p,S.ev x with
   | some (.lptr id off),some v => match look id S.objs with
     | some cs => bif v.cells.length == sh.length && Nat.ble (off + sh.length) cs.length && v.cells.all V.isCell then
       some ⟨none,some (id,setAll cs off v.cells),[],none,none⟩ else none
     | none => none
   | some (.gptr id off),some v => match S.glob[id]? with
     | some (.cells cs) => match gcels sh v.cells with
       | some vs => bif Nat.ble (off + vs.length) cs.length then some ⟨none,none,[],some (S.glob.set id (GObj.cells (setAll cs off vs))),none⟩ else none
       | none => none
     | _ => none
   | _,_ => none
   else none
 | .app fam src sh mx x y => match S.ev x,S.ev y with
   | some .nils,some b => match S.rows sh b with
     | some ys => bif Nat.ble ys.length mx then some ⟨some (.slice (some fam) sh.length ys),none,[(fam,ys.length)],none,none⟩ else none
     | none => none
   | some (.zed _),some b => match S.rows sh b with
     | some ys => bif Nat.ble ys.length mx then some ⟨some (.slice (some fam) sh.length ys),none,[(fam,ys.length)],none,none⟩ else none
     | none => none
   | some (.slice (some f) n es),some b => match S.rows sh b with
     | some ys => match (bif src == some f then look f S.toks else none) with
       | some k => bif k == es.length && (n == sh.length) && Nat.ble (es.length + ys.length) mx then
         some ⟨some (.slice (some f) n (es ++ ys)),none,[(f,es.length + ys.length)],none,none⟩ else none
       | none => none
     | none => none
   | _,_ => none
 | .call false f args reg => match S.ev f,gargs S args with
   | some (.fn g cap),some vs => match C g (vs ++ cap) S.glob with
     | some (r,G) => some ⟨some (recv reg r).1,none,(recv reg r).2,some G,none⟩
     | none => none
   | _,_ => none
 | .call true f args reg => match S.ev f,pargs S args with
   | some (.fn g []),some vs => match C g vs [] with
     | some (r,_) => bif r.lone then some ⟨some (recv reg r).1,none,(recv reg r).2,none,none⟩ else none
     | none => none
   | _,_ => none
 | .rcall f args => match S.ev f,gargs S args with
   | some (.fn g cap),some vs => match C g (vs ++ cap) S.glob with
     | some (r,G) => rd S.glob G (.val (recv [] r).1)
     | none => none
   | _,_ => none
 | .wrt k _ i x => match S.ev x with
   | some (.lref id s n) => match look i S.objs with
     | some cs => bif id == i && (s == 1) && Nat.ble n cs.length && Nat.ble n lim then match intsOf (cs.take n) with
       | some zs => some ⟨some (mutV k i zs),some (i,(mutF k zs).map (V.int .i64) ++ cs.drop n),[],none,none⟩
       | none => none
       else none
     | none => none
   | _ => none
 | .lcall f args ids => match S.ev f,largs S ids args with
   | some (.fn g []),some vs => match C g vs [] with
     | some (r,_) => bif r.scal then some (.val r) else none
     | none => none
   | _,_ => none
 | .own f args id pos => match S.ev f,pargs S args with
   | some (.fn g []),some vs => match C g vs [] with
     | some (r,_) => match ownV id pos r with
       | some (v,some cs) => some ⟨some v,some (id,cs),[],none,none⟩
       | some (v,none) => some (.val v)
       | none => none
     | none => none
   | _,_ => none
 | .mkobj id zero n => match S.ev n with
   | some (.int _ k) => bif decide (0 ≤ k) && decide (k ≤ lim) then
     some ⟨some (.lref id zero.length k.toNat),some (id,(List.replicate k.toNat zero).flatten),[],none,none⟩ else none
   | _ => none
 | .appo new src sh x y => match S.ev x,S.ev y with
   | some .nils,some b => match S.rows sh b with
     | some ys => bif ys.isEmpty then some (.val .nils) else
       bif Nat.ble ys.length lim then some ⟨some (.lref new sh.length ys.length),some (new,ys.flatten),[],none,none⟩ else none
     | none => none
   | some (.zed n),some b => match S.rows sh b with
     | some ys => bif ys.isEmpty then some (.val (.zed n)) else
       bif Nat.ble ys.length lim then some ⟨some (.lref new sh.length ys.length),some (new,ys.flatten),[],none,none⟩ else none
     | none => none
   | some (.lref id s ln),some b => match S.rows sh b,look src S.objs with
     | some ys,some cs => bif (id == src) && (s == sh.length) && (cs.length == ln * s) && Nat.ble (ln + ys.length) lim then
       some ⟨some (.lref new sh.length (ln + ys.length)),some (new,cs ++ ys.flatten),[],none,some src⟩ else none
     | _,_ => none
   | _,_ => none
 | vo => (vo.run C (some 0) { S with env:=S.env,objs:=[],toks:=[],glob:=[] }).bind fun S' => match S'.env with
   |(_,v) :: _ => some (.val v)
   | [] => none
theorem ev_env (S:St) (x:Opd):(St.mk S.env [] [] []).ev x = S.ev x:=by cases x <;> rfl
theorem evOr_env (S:St) (x:Option Opd) (n:Nat):(St.mk S.env [] [] []).evOr x n = S.evOr x n:=by cases x <;> first | rfl | exact ev_env S _
theorem evs_env (S:St):∀ xs:List Opd,evs (St.mk S.env [] [] []) xs = evs S xs
 | [] => rfl
 | x :: xs => by simp only [evs,ev_env,evs_env S xs]
theorem app_val (S:St) (d:Option Nat) (v:V):(Out.val v).app d S = S.put d v:=by cases d <;> rfl
theorem ev_of {S S':St} (e:S'.env = S.env) (x:Opd):S'.ev x = S.ev x:=by cases x <;> simp [St.ev,e]
theorem evOr_of {S S':St} (e:S'.env = S.env) (x:Option Opd) (n:Nat):S'.evOr x n = S.evOr x n:=by cases x <;> first | rfl | exact ev_of e _
theorem evs_of {S S':St} (e:S'.env = S.env):∀ xs:List Opd,evs S' xs = evs S xs
 | [] => rfl
 | x :: xs => by simp only [evs,ev_of e,evs_of e xs]
def VO.sameOn (S' S:St):VO → Prop
 | .nilchk x | .un _ x | .conv _ x | .faddr _ x | .field _ _ x | .len x | .slen x | .isnil _ x | .ext x _ => S'.ev x = S.ev x
 | .bin _ x y | .beq _ x y | .aeq _ _ x y | .iaddr _ _ x y | .idx _ _ _ x y | .mm _ x y => S'.ev x = S.ev x ∧ S'.ev y = S.ev y
 | .mm3 _ x y z => S'.ev x = S.ev x ∧ S'.ev y = S.ev y ∧ S'.ev z = S.ev z
 | .slc _ x lo hi => S'.ev x = S.ev x ∧ (∀ n,S'.evOr lo n = S.evOr lo n) ∧ (∀ n,S'.evOr hi n = S.evOr hi n)
 | .mkfn _ cap => evs S' cap = evs S cap
 | _ => True
def FrameOnly (C:CallF) (S:St) (vo:VO):Prop:=∃ r:Option V,∀ d S',VO.sameOn S' S vo → vo.run C d S' = r.map fun v => S'.put d v
def VO.frame:VO → Bool
 | .zlit _ | .isnil .. | .nilchk _ | .bin .. | .beq .. | .aeq .. | .un .. | .conv .. | .faddr .. | .iaddr .. | .idx .. | .field .. | .len _ | .slen _ | .ext .. | .slc .. | .mm .. | .mm3 .. | .mkfn .. => true
 | _ => false
theorem eff_frame (C:CallF) (S:St) (vo:VO) (h:vo.frame = true):vo.eff C S = (vo.run C (some 0) (St.mk S.env [] [] [])).bind fun S' => match S'.env with
  |(_,v) :: _ => some (.val v)
  | [] => none:=by
 cases vo <;> first | rfl | cases h
theorem frameOnly (C:CallF) (S:St) (vo:VO) (hfr:vo.frame = true):FrameOnly C S vo:=by
 have no:(∀ d S',VO.sameOn S' S vo → vo.run C d S' = none) → FrameOnly C S vo:=fun h => ⟨none,h⟩
 have yes:∀ v,(∀ d S',VO.sameOn S' S vo → vo.run C d S' = some (S'.put d v)) → FrameOnly C S vo:=fun v h => ⟨some v,h⟩
 cases vo with
 | nilchk x =>
   cases hx:S.ev x with
   | none => exact no fun d S' e => by simp only [VO.sameOn] at e;simp [VO.run,e,hx]
   | some a => cases a <;> first | (refine no fun d S' e => ?_;simp only [VO.sameOn] at e;simp [VO.run,e,hx];done) | (refine yes _ fun d S' e => Eq.trans (by simp only [VO.sameOn] at e;simp only [VO.run,e,hx];exact rfl) rfl)
 | bin op x y =>
   cases hx:S.ev x with
   | none => exact no fun d S' e => by simp only [VO.sameOn] at e;simp [VO.run,e,hx]
   | some a =>
     cases hy:S.ev y with
     | none => exact no fun d S' e => by simp only [VO.sameOn] at e;simp [VO.run,e,hx,hy]
     | some b =>
       cases hz:V.bin op a b with
       | none => exact no fun d S' e => by simp only [VO.sameOn] at e;simp [VO.run,e,hx,hy,hz]
       | some v => exact yes v fun d S' e => by simp only [VO.sameOn] at e;simp [VO.run,e,hx,hy,hz]
 | aeq neg ks x y =>
   cases hx:S.ev x with
   | none => exact no fun d S' e => by simp only [VO.sameOn] at e;simp [VO.run,e,hx]
   | some a =>
     cases hy:S.ev y with
     | none => exact no fun d S' e => by simp only [VO.sameOn] at e;simp [VO.run,e,hx,hy]
     | some b =>
       cases hz:V.aeq neg ks a b with
       | none => exact no fun d S' e => by simp only [VO.sameOn] at e;simp [VO.run,e,hx,hy,hz]
       | some v => exact yes v fun d S' e => by simp only [VO.sameOn] at e;simp [VO.run,e,hx,hy,hz]
 | beq neg x y =>
   cases hx:S.ev x with
   | none => exact no fun d S' e => by simp only [VO.sameOn] at e;simp [VO.run,e,hx]
   | some a =>
     cases hy:S.ev y with
     | none => exact no fun d S' e => by simp only [VO.sameOn] at e;cases a <;> simp [VO.run,e,hx,hy]
     | some b => cases a <;> cases b <;> first | (refine no fun d S' e => ?_;simp only [VO.sameOn] at e;simp [VO.run,e,hx,hy];done) | (refine yes _ fun d S' e => Eq.trans (by simp only [VO.sameOn] at e;simp only [VO.run,e,hx,hy];exact rfl) rfl)
 | un op x =>
   cases hx:S.ev x with
   | none => exact no fun d S' e => by simp only [VO.sameOn] at e;simp [VO.run,e,hx]
   | some a =>
     cases hz:V.un op a with
     | none => exact no fun d S' e => by simp only [VO.sameOn] at e;simp [VO.run,e,hx,hz]
     | some v => exact yes v fun d S' e => by simp only [VO.sameOn] at e;simp [VO.run,e,hx,hz]
 | conv k x =>
   cases hx:S.ev x with
   | none => exact no fun d S' e => by simp only [VO.sameOn] at e;simp [VO.run,e,hx]
   | some a => cases a <;> first | (refine no fun d S' e => ?_;simp only [VO.sameOn] at e;simp [VO.run,e,hx];done) | (refine yes _ fun d S' e => Eq.trans (by simp only [VO.sameOn] at e;simp only [VO.run,e,hx];exact rfl) rfl)
 | faddr off x =>
   cases hx:S.ev x with
   | none => exact no fun d S' e => by simp only [VO.sameOn] at e;simp [VO.run,e,hx]
   | some a => cases a <;> first | (refine no fun d S' e => ?_;simp only [VO.sameOn] at e;simp [VO.run,e,hx];done) | (refine yes _ fun d S' e => Eq.trans (by simp only [VO.sameOn] at e;simp only [VO.run,e,hx];exact rfl) rfl)
 | iaddr arr sz x i =>
   cases hx:S.ev x with
   | none => exact no fun d S' e => by simp only [VO.sameOn] at e;cases arr <;> simp [VO.run,e,hx]
   | some a =>
     cases hy:S.ev i with
     | none => exact no fun d S' e => by simp only [VO.sameOn] at e;cases arr <;> cases a <;> simp [VO.run,e,hx,hy]
     | some b =>
       cases b with
       | int k m =>
         cases arr with
         | some n =>
           cases hc:(decide (0 ≤ m) && decide (m < (n:Int))) with
           | false => exact no fun d S' e => by simp only [VO.sameOn] at e;simp only [VO.run,e,hx,hy,hc,cond_false]
           | true => cases a <;> first | (refine no fun d S' e => ?_;simp only [VO.sameOn] at e;simp only [VO.run,e,hx,hy,hc,cond_true];done) | (refine yes _ fun d S' e => Eq.trans (by simp only [VO.sameOn] at e;simp only [VO.run,e,hx,hy,hc,cond_true];exact rfl) rfl)
         | none =>
           cases a with
           | slice tk n es =>
             cases hc:(decide (0 ≤ m) && (n == sz)) with
             | false => exact no fun d S' e => by simp only [VO.sameOn] at e;simp only [VO.run,e,hx,hy,hc,cond_false]
             | true =>
               cases he:es[m.toNat]? with
               | none => exact no fun d S' e => by simp only [VO.sameOn] at e;simp only [VO.run,e,hx,hy,hc,cond_true,he]
               | some r => exact yes (.eptr r 0) fun d S' e => by simp only [VO.sameOn] at e;simp only [VO.run,e,hx,hy,hc,cond_true,he]
           | lref id off n =>
             cases hc:(decide (0 ≤ m) && decide (m < (n:Int)) && (off == sz)) with
             | false => exact no fun d S' e => by simp only [VO.sameOn] at e;simp only [VO.run,e,hx,hy,hc,cond_false]
             | true => exact yes (.lptr id (m.toNat * sz)) fun d S' e => by simp only [VO.sameOn] at e;simp only [VO.run,e,hx,hy,hc,cond_true]
           | _ => exact no fun d S' e => by simp only [VO.sameOn] at e;simp [VO.run,e,hx,hy]
       | _ => exact no fun d S' e => by simp only [VO.sameOn] at e;cases arr <;> cases a <;> simp [VO.run,e,hx,hy]
 | idx n sz ag x i =>
   cases hx:S.ev x with
   | none => exact no fun d S' e => by simp only [VO.sameOn] at e;simp [VO.run,e,hx]
   | some a =>
     cases hy:S.ev i with
     | none => exact no fun d S' e => by simp only [VO.sameOn] at e;cases a <;> simp [VO.run,e,hx,hy]
     | some b =>
       cases b with
       | int k m =>
         cases a with
         | agg cs =>
           cases hc:(decide (0 ≤ m) && decide (m < (n:Int))) with
           | false => exact no fun d S' e => by simp only [VO.sameOn] at e;simp only [VO.run,e,hx,hy,hc,cond_false]
           | true =>
             cases hl:loadAt (bif ag then some sz else none) cs (m.toNat * sz) with
             | none => exact no fun d S' e => by simp only [VO.sameOn] at e;simp only [VO.run,e,hx,hy,hc,cond_true,hl]
             | some v => exact yes v fun d S' e => by simp only [VO.sameOn] at e;simp only [VO.run,e,hx,hy,hc,cond_true,hl]
         | _ => exact no fun d S' e => by simp only [VO.sameOn] at e;simp [VO.run,e,hx,hy]
       | _ => exact no fun d S' e => by simp only [VO.sameOn] at e;cases a <;> simp [VO.run,e,hx,hy]
 | field off sz x =>
   cases hx:S.ev x with
   | none => exact no fun d S' e => by simp only [VO.sameOn] at e;simp [VO.run,e,hx]
   | some a =>
     cases a with
     | agg cs =>
       cases hl:loadAt sz cs off with
       | none => exact no fun d S' e => by simp only [VO.sameOn] at e;simp only [VO.run,e,hx,hl]
       | some v => exact yes v fun d S' e => by simp only [VO.sameOn] at e;simp only [VO.run,e,hx,hl]
     | _ => exact no fun d S' e => by simp only [VO.sameOn] at e;simp [VO.run,e,hx]
 | zlit n => exact yes (.zed n) fun d S' e => rfl
 | isnil neg x =>
   cases hx:S.ev x with
   | none => exact no fun d S' e => by simp only [VO.sameOn] at e;simp [VO.run,e,hx]
   | some a =>
     cases a with
     | slice t n es => cases es <;> first | (refine no fun d S' e => ?_;simp only [VO.sameOn] at e;simp [VO.run,e,hx];done) | (refine yes _ fun d S' e => Eq.trans (by simp only [VO.sameOn] at e;simp only [VO.run,e,hx];exact rfl) rfl)
     | _ => first | (refine no fun d S' e => ?_;simp only [VO.sameOn] at e;simp [VO.run,e,hx];done) | (refine yes _ fun d S' e => Eq.trans (by simp only [VO.sameOn] at e;simp only [VO.run,e,hx];exact rfl) rfl)
 | len x =>
   cases hx:S.ev x with
   | none => exact no fun d S' e => by simp only [VO.sameOn] at e;simp [VO.run,e,hx]
   | some a => cases a <;> first | (refine no fun d S' e => ?_;simp only [VO.sameOn] at e;simp [VO.run,e,hx];done) | (refine yes _ fun d S' e => Eq.trans (by simp only [VO.sameOn] at e;simp only [VO.run,e,hx];exact rfl) rfl)
 | slen x =>
   cases hx:S.ev x with
   | none => exact no fun d S' e => by simp only [VO.sameOn] at e;simp [VO.run,e,hx]
   | some a => cases a <;> first | (refine no fun d S' e => ?_;simp only [VO.sameOn] at e;simp [VO.run,e,hx];done) | (refine yes _ fun d S' e => Eq.trans (by simp only [VO.sameOn] at e;simp only [VO.run,e,hx];exact rfl) rfl)
 | ext x i =>
   cases hx:S.ev x with
   | none => exact no fun d S' e => by simp only [VO.sameOn] at e;simp [VO.run,e,hx]
   | some a =>
     cases a with
     | tuple vs =>
       cases hl:vs[i]? with
       | none => exact no fun d S' e => by simp only [VO.sameOn] at e;simp only [VO.run,e,hx,hl]
       | some v => exact yes v fun d S' e => by simp only [VO.sameOn] at e;simp only [VO.run,e,hx,hl]
     | _ => exact no fun d S' e => by simp only [VO.sameOn] at e;simp [VO.run,e,hx]
 | slc sz x lo hi =>
   cases hx:S.ev x with
   | none => exact no fun d S' e => by simp only [VO.sameOn] at e;simp [VO.run,e,hx]
   | some a =>
     cases a with
     | slice tk m es =>
       cases hl:S.evOr lo 0 with
       | none => exact no fun d S' e => by simp only [VO.sameOn] at e;simp [VO.run,e,hx,hl]
       | some p =>
         cases hh:S.evOr hi es.length with
         | none => exact no fun d S' e => by simp only [VO.sameOn] at e;cases p <;> simp [VO.run,e,hx,hl,hh]
         | some q =>
           cases p with
           | int k1 l =>
             cases q with
             | int k2 h =>
               cases hc:(decide (0 ≤ l) && decide (l ≤ h) && decide (h ≤ (es.length:Int)) && (m == sz)) with
               | false => exact no fun d S' e => by simp only [VO.sameOn] at e;simp only [VO.run,e,hx,hl,hh,hc,cond_false]
               | true => exact yes (.slice none sz ((es.take h.toNat).drop l.toNat)) fun d S' e => by simp only [VO.sameOn] at e;simp only [VO.run,e,hx,hl,hh,hc,cond_true]
             | _ => exact no fun d S' e => by simp only [VO.sameOn] at e;simp [VO.run,e,hx,hl,hh]
           | _ => exact no fun d S' e => by simp only [VO.sameOn] at e;simp [VO.run,e,hx,hl,hh]
     | _ => exact no fun d S' e => by simp only [VO.sameOn] at e;simp [VO.run,e,hx]
 | mm3 mx x y z =>
   cases hx:S.ev x with
   | none => exact no fun d S' e => by simp only [VO.sameOn] at e;simp [VO.run,e,hx]
   | some a =>
     cases hy:S.ev y with
     | none => exact no fun d S' e => by simp only [VO.sameOn] at e;cases a <;> simp [VO.run,e,hx,hy]
     | some b =>
       cases hz:S.ev z with
       | none => exact no fun d S' e => by simp only [VO.sameOn] at e;cases a <;> cases b <;> simp [VO.run,e,hx,hy,hz]
       | some c =>
         cases a with
         | int k1 a => cases b with
           | int k2 b => cases c with
             | int k3 c => exact yes _ fun d S' e => Eq.trans (by simp only [VO.sameOn] at e;simp only [VO.run,e,hx,hy,hz];exact rfl) rfl
             | _ => exact no fun d S' e => by simp only [VO.sameOn] at e;simp [VO.run,e,hx,hy,hz]
           | _ => exact no fun d S' e => by simp only [VO.sameOn] at e;simp [VO.run,e,hx,hy,hz]
         | _ => exact no fun d S' e => by simp only [VO.sameOn] at e;simp [VO.run,e,hx,hy,hz]
 | mm mx x y =>
   cases hx:S.ev x with
   | none => exact no fun d S' e => by simp only [VO.sameOn] at e;simp [VO.run,e,hx]
   | some a =>
     cases hy:S.ev y with
     | none => exact no fun d S' e => by simp only [VO.sameOn] at e;cases a <;> simp [VO.run,e,hx,hy]
     | some b => cases a <;> cases b <;> first | (refine no fun d S' e => ?_;simp only [VO.sameOn] at e;simp [VO.run,e,hx,hy];done) | (refine yes _ fun d S' e => Eq.trans (by simp only [VO.sameOn] at e;simp only [VO.run,e,hx,hy];exact rfl) rfl)
 | mkfn f cap =>
   cases hx:evs S cap with
   | none => exact no fun d S' e => by simp only [VO.sameOn] at e;simp [VO.run,e,hx]
   | some vs =>
     cases hg:gcaps vs with
     | none => exact no fun d S' e => by simp only [VO.sameOn] at e;simp only [VO.run,e,hx,hg]
     | some us => exact yes (.fn f us) fun d S' e => by simp only [VO.sameOn] at e;simp only [VO.run,e,hx,hg]
 | _ => cases hfr
theorem map_bif {α β:Type} (c:Bool) (x y:Option α) (f:α → β):(bif c then x else y).map f = bif c then x.map f else y.map f:=by cases c <;> rfl
theorem sameOn_env {S S':St} (e:S'.env = S.env) (vo:VO):VO.sameOn S' S vo:=by
 cases vo <;> first
  | trivial
  | exact ev_of e _
  | exact ⟨ev_of e _,ev_of e _⟩
  | exact ⟨ev_of e _,ev_of e _,ev_of e _⟩
  | exact ⟨ev_of e _,fun n => evOr_of e _ n,fun n => evOr_of e _ n⟩
  | exact evs_of e _
theorem run_eff_frame (C:CallF) (d:Option Nat) (S:St) (vo:VO) (h:vo.frame = true):vo.run C d S = (vo.eff C S).map fun u => u.app d S:=by
 obtain ⟨r,hr⟩:=frameOnly C S vo h
 rw [eff_frame C S vo h,hr d S (sameOn_env (S':=S) rfl vo),hr (some 0) (St.mk S.env [] [] []) (sameOn_env (by rfl) vo)]
 cases r <;> simp [app_val,St.put]
theorem run_eff (C:CallF) (d:Option Nat) (S:St) (vo:VO):vo.run C d S = (vo.eff C S).map fun u => u.app d S:=by
 cases vo with
 | mv x => simp only [VO.run,VO.eff];cases S.ev x <;> simp [app_val]
 | pick c a b =>
   simp only [VO.run,VO.eff]
   cases S.ev c with
   | none => rfl
   | some v =>
     cases v <;> try rfl
     rename_i t
     cases t <;> simp only [cond_true,cond_false]
     ·cases S.ev b <;> simp [app_val]
     ·cases S.ev a <;> simp [app_val]
 | obj id cells => rfl
 | box id x =>
   simp only [VO.run,VO.eff]
   cases S.ev x with
   | none => rfl
   | some v => simp only [map_bif];cases v.cells.all V.isCell <;> rfl
 | gbox sh x =>
   simp only [VO.run,VO.eff]
   cases S.ev x with
   | none => rfl
   | some v => simp only;cases gcels sh v.cells <;> rfl
 | galloc sh zero => simp only [VO.run,VO.eff];cases gcels sh zero <;> rfl
 | mkmap => rfl
 | mapget ag ks zero ok x k =>
   simp only [VO.run,VO.eff]
   split
   ·split
    ·split <;> simp_all [app_val]
    ·simp_all
   ·simp_all
 | mapset ag ks sh x k y =>
   simp only [VO.run,VO.eff]
   split
   ·split
    ·split <;> simp_all [Out.app,Out.objs]
    ·simp_all
   ·simp_all
 | build zero parts => simp only [VO.run,VO.eff];cases fillParts S parts zero <;> simp [app_val]
 | lit tok sh zero ln parts =>
   simp only [VO.run,VO.eff]
   cases fillRows S sh parts (List.replicate ln zero) with
   | none => rfl
   | some rs => cases tok <;> simp [app_val] <;> rfl
 | load root sz p =>
   simp only [VO.run,VO.eff]
   cases S.ev p with
   | none => rfl
   | some a =>
     simp only [map_bif]
     cases root.fits a
     ·rfl
     ·simp only [cond_true]
      cases S.cellsAt a with
      | none => rfl
      | some q =>
        obtain ⟨cs,off⟩:=q
        simp only
        cases loadAt sz cs off <;> simp [app_val]
 | lcall f args ids =>
   simp only [VO.run,VO.eff]
   cases S.ev f with
   | none => rfl
   | some a =>
     cases a <;> try rfl
     rename_i g cap
     cases cap with
     | cons _ _ => rfl
     | nil =>
       cases largs S ids args with
       | none => rfl
       | some vs =>
         simp only
         cases C g vs [] with
         | none => rfl
         | some q =>
           obtain ⟨r,G⟩:=q
           simp only [map_bif]
           cases r.scal <;> simp [app_val]
 | gtake fam p =>
   simp only [VO.run,VO.eff]
   cases S.ev p with
   | none => rfl
   | some a =>
     simp only
     cases S.take fam a with
     | none => rfl
     | some q => rfl
 | gput fam p x =>
   simp only [VO.run,VO.eff]
   cases S.ev p with
   | none => rfl
   | some a =>
     cases S.ev x with
     | none => rfl
     | some v =>
       simp only
       cases S.give fam a v with
       | none => rfl
       | some q => rfl
 | store root sh p x =>
   simp only [VO.run,VO.eff]
   simp only [map_bif]
   cases S.fits root p
   ·rfl
   ·simp only [cond_true]
    cases S.ev p with
    | none => rfl
    | some a =>
      cases S.ev x with
      | none => cases a <;> rfl
      | some v =>
        cases a <;> try rfl
        ·rename_i id off
         simp only
         cases look id S.objs with
         | none => rfl
         | some cs => simp only [map_bif];rfl
        ·rename_i id off
         simp only
         cases S.glob[id]? with
         | none => rfl
         | some o =>
           cases o with
           | map es => rfl
           | cells cs =>
             simp only
             cases gcels sh v.cells with
             | none => rfl
             | some vs => simp only [map_bif];rfl
 | app fam src sh mx x y =>
   simp only [VO.run,VO.eff]
   cases S.ev x with
   | none => rfl
   | some a =>
     cases S.ev y with
     | none =>
       cases a <;> try rfl
       rename_i tok n es
       cases tok <;> rfl
     | some b =>
       cases a <;> try rfl
       ·simp only
        cases S.rows sh b with
        | none => rfl
        | some ys => simp only [map_bif];rfl
       ·rename_i tok n es
        cases tok with
        | none => rfl
        | some f =>
          simp only
          cases S.rows sh b with
          | none => rfl
          | some ys =>
            simp only
            cases (bif src == some f then look f S.toks else none) with
            | none => rfl
            | some k => simp only [map_bif];rfl
       ·simp only
        cases S.rows sh b with
        | none => rfl
        | some ys => simp only [map_bif];rfl
 | appo nw src sh x y =>
   simp only [VO.run,VO.eff]
   cases S.ev x with
   | none => rfl
   | some a =>
     cases S.ev y with
     | none => cases a <;> rfl
     | some b =>
       cases a <;> try rfl
       ·simp only
        cases S.rows sh b with
        | none => rfl
        | some ys =>
          simp only [map_bif]
          cases ys.isEmpty <;> simp [app_val] <;> rfl
       ·simp only
        cases S.rows sh b with
        | none => rfl
        | some ys =>
          simp only [map_bif]
          cases ys.isEmpty <;> simp [app_val] <;> rfl
       ·simp only
        cases S.rows sh b with
        | none => rfl
        | some ys =>
          cases look src S.objs with
          | none => rfl
          | some cs => simp only [map_bif];rfl
 | call alone f args reg =>
   cases alone
   ·simp only [VO.run,VO.eff]
    cases S.ev f with
    | none => rfl
    | some a =>
      cases a <;> try rfl
      rename_i g cap
      cases gargs S args with
      | none => rfl
      | some vs =>
        simp only
        cases C g (vs ++ cap) S.glob with
        | none => rfl
        | some q => rfl
   ·simp only [VO.run,VO.eff]
    cases S.ev f with
    | none => rfl
    | some a =>
      cases a <;> try rfl
      rename_i g cap
      cases pargs S args with
      | none => cases cap <;> rfl
      | some vs =>
        cases cap with
        | cons _ _ => rfl
        | nil =>
          simp only
          cases C g vs [] with
          | none => rfl
          | some q => simp only [map_bif];rfl
 | rcall f args =>
   simp only [VO.run,VO.eff]
   cases S.ev f with
   | none => rfl
   | some a =>
     cases a <;> try rfl
     rename_i g cap
     cases gargs S args with
     | none => rfl
     | some vs =>
       simp only
       cases C g (vs ++ cap) S.glob with
       | none => rfl
       | some q =>
         simp only [rd]
         split <;> simp [app_val]
 | own f args id pos =>
   simp only [VO.run,VO.eff]
   cases S.ev f with
   | none => rfl
   | some a =>
     cases a <;> try rfl
     rename_i g cap
     cases pargs S args with
     | none => cases cap <;> rfl
     | some vs =>
       cases cap with
       | cons _ _ => rfl
       | nil =>
         simp only
         cases C g vs [] with
         | none => rfl
         | some q =>
           simp only
           cases ownV id pos q.1 with
           | none => rfl
           | some p =>
             obtain ⟨v,o⟩:=p
             cases o with
             | none => simp [app_val]
             | some cs => rfl
 | wrt k f i x =>
   simp only [VO.run,VO.eff,St.mut]
   cases S.ev x with
   | none => rfl
   | some a =>
     cases a <;> try rfl
     simp only
     cases look i S.objs with
     | none => rfl
     | some cs =>
       simp only [map_bif]
       congr 1
       generalize intsOf _ = z
       cases z <;> rfl
 | mkobj id zero n =>
   simp only [VO.run,VO.eff]
   cases S.ev n with
   | none => rfl
   | some a =>
     cases a <;> try rfl
     simp only [map_bif];rfl
 | _ => exact run_eff_frame C d S _ rfl
def Opd.keys:Opd → List Key
 | .t s => [.e s]
 | .c _ => []
def Root.keys:Root → List Key
 | .loc id => [.o id]
 | .glob => [.g]
 | .imm => []
def okeys:Option Opd → List Key
 | some o => o.keys
 | none => []
def tkeys:Option Nat → List Key
 | some f => [.t f]
 | none => []
def VO.rd:VO → List Key
 | .wrt _ _ id x => .o id :: x.keys
 | .zlit _ => []
 | .isnil _ x => x.keys
 | .gtake _ x => .g :: x.keys
 | .gput f x y => .g :: .t f :: (x.keys ++ y.keys)
 | .mv x | .box _ x | .nilchk x | .un _ x | .conv _ x | .faddr _ x | .field _ _ x | .len x | .slen x | .ext x _ | .mkobj _ _ x => x.keys
 | .pick a b c => a.keys ++ b.keys ++ c.keys
 | .obj _ _ => []
 | .gbox _ x => .g :: x.keys
 | .galloc _ _ | .mkmap => [.g]
 | .mapget _ _ _ _ x k => .g :: (x.keys ++ k.keys)
 | .mapset _ _ _ x k y => .g :: (x.keys ++ k.keys ++ y.keys)
 | .build _ ps => ps.flatMap fun p => p.2.2.keys
 | .lit _ _ _ _ ps => ps.flatMap fun p => p.2.keys
 | .load root _ x => root.keys ++ x.keys
 | .store root _ x y => root.keys ++ x.keys ++ y.keys
 | .bin _ x y | .beq _ x y | .aeq _ _ x y | .iaddr _ _ x y | .idx _ _ _ x y | .mm _ x y => x.keys ++ y.keys
 | .mm3 _ x y z => x.keys ++ y.keys ++ z.keys
 | .app _ src _ _ x y => tkeys src ++ x.keys ++ y.keys
 | .appo _ src _ x y => .o src :: (x.keys ++ y.keys)
 | .call alone f args _ => (bif alone then [] else [.g]) ++ f.keys ++ args.flatMap fun p => p.2.keys
 | .own f args _ _ => f.keys ++ args.flatMap fun p => p.2.keys
 | .lcall f args ids => ids.map Key.o ++ (f.keys ++ args.flatMap fun p => p.2.2.keys)
 | .rcall f args => .g :: (f.keys ++ args.flatMap fun p => p.2.keys)
 | .slc _ x lo hi => x.keys ++ okeys lo ++ okeys hi
 | .mkfn _ cap => cap.flatMap Opd.keys
def VO.wr:VO → List Key
 | .obj id _ | .box id _ | .mkobj id _ _ => [.o id]
 | .gbox _ _ | .galloc _ _ | .mkmap | .mapset .. => [.g]
 | .lit (some f) _ _ _ _ => [.t f]
 | .store (.loc id) _ _ _ => [.o id]
 | .store _ _ _ _ => [.g]
 | .app f src _ _ _ _ => .t f :: tkeys src
 | .gtake f _ | .gput f _ _ => [.g,.t f]
 | .appo nw src _ _ _ => [.o nw,.o src]
 | .call alone _ _ reg => (bif alone then [] else [.g]) ++ (regsOf reg).map .t
 | .own _ _ id _ => [.o id]
 | .wrt _ _ id _ => [.o id]
 | _ => []
def VOp.rd (o:VOp):List Key:=(match o.guard with | some (s,_) => [.e s] | none => []) ++ o.op.rd
def VOp.wr (o:VOp):List Key:=(match o.dst with | some d => [.e d] | none => []) ++ o.op.wr
def AgreeOn (S S':St) (K:List Key):Prop:=∀ k ∈ K,same S S' k
section
variable {S S':St} {C:CallF}
theorem ev_agree {x:Opd} (h:AgreeOn S S' x.keys):S.ev x = S'.ev x:=by
 cases x with
 | t s => exact h (.e s) (by simp [Opd.keys])
 | c v => rfl
theorem AgreeOn.left {K L:List Key} (h:AgreeOn S S' (K ++ L)):AgreeOn S S' K:=fun k hk => h k (List.mem_append_left _ hk)
theorem AgreeOn.right {K L:List Key} (h:AgreeOn S S' (K ++ L)):AgreeOn S S' L:=fun k hk => h k (List.mem_append_right _ hk)
theorem evs_agree:∀ {xs:List Opd},AgreeOn S S' (xs.flatMap Opd.keys) → evs S xs = evs S' xs
 | [],_ => rfl
 | x :: xs,h => by
   rw [List.flatMap_cons] at h
   simp only [evs,ev_agree h.left,evs_agree h.right]
theorem fillParts_agree:∀ {ps:List (Nat × Nat × Opd)} {cs:List V},AgreeOn S S' (ps.flatMap fun p => p.2.2.keys) → fillParts S ps cs = fillParts S' ps cs
 | [],_,_ => rfl
 |(off,n,x) :: ps,cs,h => by
  rw [List.flatMap_cons] at h
  simp only [fillParts,ev_agree (x:=x) h.left]
  split
  ·rw [fillParts_agree h.right]
  ·rfl
theorem fillRows_agree {sh:Sh}:∀ {ps:List (Nat × Opd)} {rs:List (List V)},AgreeOn S S' (ps.flatMap fun p => p.2.keys) → fillRows S sh ps rs = fillRows S' sh ps rs
 | [],_,_ => rfl
 |(i,x) :: ps,rs,h => by
  rw [List.flatMap_cons] at h
  simp only [fillRows,ev_agree (x:=x) h.left]
  split
  ·split
   ·rw [fillRows_agree h.right]
   ·rfl
  ·rfl
theorem gargs_agree:∀ {ps:List (Sh × Opd)},AgreeOn S S' (ps.flatMap fun p => p.2.keys) → gargs S ps = gargs S' ps
 | [],_ => rfl
 |(sh,x) :: ps,h => by
  rw [List.flatMap_cons] at h
  simp only [gargs,ev_agree (x:=x) h.left,gargs_agree h.right]
theorem pargs_agree:∀ {ps:List (Sh × Opd)},AgreeOn S S' (ps.flatMap fun p => p.2.keys) → pargs S ps = pargs S' ps
 | [],_ => rfl
 |(sh,x) :: ps,h => by
  rw [List.flatMap_cons] at h
  simp only [pargs,ev_agree (x:=x) h.left,pargs_agree h.right]
theorem rows_agree {sh:Sh} {v:V}:S.rows sh v = S'.rows sh v:=by
 unfold St.rows
 split <;> rfl
theorem sameOn_agree {vo:VO} (h:AgreeOn S S' vo.rd):VO.sameOn S' S vo:=by
 cases vo with
 | nilchk x => exact (ev_agree h).symm
 | un op x => exact (ev_agree h).symm
 | conv k x => exact (ev_agree h).symm
 | faddr off x => exact (ev_agree h).symm
 | field off sz x => exact (ev_agree h).symm
 | isnil neg x => exact (ev_agree h).symm
 | len x => exact (ev_agree h).symm
 | slen x => exact (ev_agree h).symm
 | ext x i => exact (ev_agree h).symm
 | bin op x y => exact ⟨(ev_agree h.left).symm,(ev_agree h.right).symm⟩
 | beq neg x y => exact ⟨(ev_agree h.left).symm,(ev_agree h.right).symm⟩
 | aeq neg ks x y => exact ⟨(ev_agree h.left).symm,(ev_agree h.right).symm⟩
 | iaddr arr sz x y => exact ⟨(ev_agree h.left).symm,(ev_agree h.right).symm⟩
 | idx n sz ag x y => exact ⟨(ev_agree h.left).symm,(ev_agree h.right).symm⟩
 | mm mx x y => exact ⟨(ev_agree h.left).symm,(ev_agree h.right).symm⟩
 | mm3 mx x y z =>
   have h1:AgreeOn S S' (x.keys ++ y.keys ++ z.keys):=h
   exact ⟨(ev_agree h1.left.left).symm,(ev_agree h1.left.right).symm,(ev_agree h1.right).symm⟩
 | slc sz x lo hi =>
   have h1:AgreeOn S S' (x.keys ++ okeys lo ++ okeys hi):=h
   refine ⟨(ev_agree h1.left.left).symm,fun n => ?_,fun n => ?_⟩
   ·cases lo with
    | none => rfl
    | some o => exact (ev_agree h1.left.right).symm
   ·cases hi with
    | none => rfl
    | some o => exact (ev_agree h1.right).symm
 | mkfn f cap => exact (evs_agree h).symm
 | _ => trivial
theorem eff_agree_frame {vo:VO} (hfr:vo.frame = true) (h:AgreeOn S S' vo.rd):vo.eff C S = vo.eff C S':=by
 obtain ⟨r,hr⟩:=frameOnly C S vo hfr
 rw [eff_frame C S vo hfr,eff_frame C S' vo hfr,hr (some 0) _ (sameOn_env (by rfl) vo)]
 have h1:=sameOn_agree h
 have h2:VO.sameOn (St.mk S'.env [] [] []) S vo:=by
  cases vo <;> simp only [VO.sameOn,ev_env,evOr_env,evs_env] at h1 ⊢ <;> exact h1
 rw [hr (some 0) _ h2]
 cases r <;> rfl
theorem cellsAt_agree {root:Root} {a:V} (hf:root.fits a = true) (h:AgreeOn S S' root.keys):S.cellsAt a = S'.cellsAt a:=by
 cases root with
 | loc i =>
   cases a <;> simp [Root.fits] at hf
   rename_i id off
   subst hf
   have:look i S.objs = look i S'.objs:=h (.o i) (by simp [Root.keys])
   simp only [St.cellsAt,this]
 | glob =>
   cases a <;> simp [Root.fits] at hf
   have:S.glob = S'.glob:=h .g (by simp [Root.keys])
   simp only [St.cellsAt,this]
 | imm =>
   cases a <;> simp [Root.fits] at hf
   rfl
theorem largs_agree {ids:List Nat} (ho:∀ id ∈ ids,look id S.objs = look id S'.objs):∀ {ps:List (Sh × Sh × Opd)},AgreeOn S S' (ps.flatMap fun p => p.2.2.keys) → largs S ids ps = largs S' ids ps
 | [],_ => rfl
 |(rs,sh,x) :: ps,h => by
  rw [List.flatMap_cons] at h
  have h1:S.ev x = S'.ev x:=ev_agree h.left
  have h2:=largs_agree ho (ps:=ps) h.right
  have h3:∀ id s n,S.lent ids rs id s n = S'.lent ids rs id s n:=fun id s n => by
   unfold St.lent
   cases hc:ids.contains id with
   | false => rfl
   | true => simp only [cond_true,St.objRows,ho id (by simpa using hc)]
  simp only [largs,h1,h2]
  cases S'.ev x with
  | none => rfl
  | some v =>
    cases v <;> try rfl
    rename_i id s n
    simp only [h3 id s n]
theorem eff_agree {vo:VO} (h:AgreeOn S S' vo.rd):vo.eff C S = vo.eff C S':=by
 cases vo with
 | mv x => simp only [VO.eff,ev_agree (x:=x) h]
 | pick c a b =>
   have h1:AgreeOn S S' (c.keys ++ a.keys ++ b.keys):=h
   simp only [VO.eff,ev_agree (x:=c) h1.left.left,ev_agree (x:=a) h1.left.right,ev_agree (x:=b) h1.right]
 | obj id cells => rfl
 | box id x => simp only [VO.eff,ev_agree (x:=x) h]
 | gbox sh x =>
   have hg:S.glob = S'.glob:=h .g (by simp [VO.rd])
   have hx:AgreeOn S S' x.keys:=fun k hk => h k (by simp [VO.rd,hk])
   simp only [VO.eff,ev_agree hx,hg]
 | galloc sh zero =>
   have hg:S.glob = S'.glob:=h .g (by simp [VO.rd])
   simp only [VO.eff,hg]
 | mkmap =>
   have hg:S.glob = S'.glob:=h .g (by simp [VO.rd])
   simp only [VO.eff,hg]
 | mapget ag ks zero ok x k =>
   have hg:S.glob = S'.glob:=h .g (by simp [VO.rd])
   have hx:AgreeOn S S' x.keys:=fun k hk => h k (by simp [VO.rd,hk])
   have hk:AgreeOn S S' k.keys:=fun k hk => h k (by simp [VO.rd,hk])
   simp only [VO.eff,ev_agree hx,ev_agree hk,hg]
 | mapset ag ks sh x k y =>
   have hg:S.glob = S'.glob:=h .g (by simp [VO.rd])
   have hx:AgreeOn S S' x.keys:=fun k hk => h k (by simp [VO.rd,hk])
   have hk:AgreeOn S S' k.keys:=fun k hk => h k (by simp [VO.rd,hk])
   have hy:AgreeOn S S' y.keys:=fun k hk => h k (by simp [VO.rd,hk])
   simp only [VO.eff,ev_agree hx,ev_agree hk,ev_agree hy,hg]
 | build zero ps => simp only [VO.eff,fillParts_agree (ps:=ps) h]
 | lit tok sh zero ln ps => simp only [VO.eff,fillRows_agree (ps:=ps) h]
 | load root sz x =>
   have h1:AgreeOn S S' (root.keys ++ x.keys):=h
   simp only [VO.eff,ev_agree (x:=x) h1.right]
   cases S'.ev x with
   | none => rfl
   | some a =>
     simp only
     cases hf:root.fits a with
     | false => rfl
     | true => simp only [cond_true,cellsAt_agree hf h1.left]
 | lcall f args ids =>
   have h1:AgreeOn S S' (ids.map Key.o ++ (f.keys ++ args.flatMap fun p => p.2.2.keys)):=h
   have h2:∀ id ∈ ids,look id S.objs = look id S'.objs:=fun id hi => h1 (.o id) (List.mem_append_left _ (List.mem_map.2 ⟨id,hi,rfl⟩))
   simp only [VO.eff,ev_agree (x:=f) h1.right.left,largs_agree h2 (ps:=args) h1.right.right]
 | gtake fam x =>
   have hg:S.glob = S'.glob:=h .g (by simp [VO.rd])
   have hx:AgreeOn S S' x.keys:=fun k hk => h k (by simp [VO.rd,hk])
   have ht:∀ a,S.take fam a = S'.take fam a:=fun a => by cases a <;> simp only [St.take,hg]
   simp only [VO.eff,ev_agree hx,ht]
 | gput fam x y =>
   have hg:S.glob = S'.glob:=h .g (by simp [VO.rd])
   have hf:look fam S.toks = look fam S'.toks:=h (.t fam) (by simp [VO.rd])
   have hx:AgreeOn S S' x.keys:=fun k hk => h k (by simp [VO.rd,hk])
   have hy:AgreeOn S S' y.keys:=fun k hk => h k (by simp [VO.rd,hk])
   have ht:∀ a b,S.give fam a b = S'.give fam a b:=fun a b => by
    unfold St.give
    split <;> first | rfl | simp only [hg,hf]
   simp only [VO.eff,ev_agree hx,ev_agree hy,ht]
 | store root sh x y =>
   have h1:AgreeOn S S' (root.keys ++ x.keys ++ y.keys):=h
   have hx:=ev_agree (x:=x) h1.left.right
   have hy:=ev_agree (x:=y) h1.right
   have hfit:S.fits root x = S'.fits root x:=by simp only [St.fits,hx]
   simp only [VO.eff,hfit,hx,hy]
   cases hf:S'.fits root x with
   | false => rfl
   | true =>
     simp only [cond_true]
     simp only [St.fits] at hf
     cases hp:S'.ev x with
     | none => rfl
     | some a =>
       rw [hp] at hf
       simp only at hf
       cases root with
       | loc i =>
         cases a <;> simp [Root.fits] at hf
         rename_i id off
         subst hf
         have:look i S.objs = look i S'.objs:=h (.o i) (by simp [VO.rd,Root.keys])
         cases S'.ev y with
         | none => rfl
         | some v => simp only [this]
       | glob =>
         cases a <;> simp [Root.fits] at hf
         have:S.glob = S'.glob:=h .g (by simp [VO.rd,Root.keys])
         cases S'.ev y with
         | none => rfl
         | some v => simp only [this]
       | imm =>
         cases a <;> simp [Root.fits] at hf
         rfl
 | app fam src sh mx x y =>
   have h1:AgreeOn S S' (tkeys src ++ x.keys ++ y.keys):=h
   have ht:∀ f,(bif src == some f then look f S.toks else none) = (bif src == some f then look f S'.toks else none):=fun f => by
    cases hs:src == some f with
    | false => rfl
    | true =>
      have:=eq_of_beq hs
      subst this
      exact h (.t f) (by simp [VO.rd,tkeys])
   have hr:∀ v,S.rows sh v = S'.rows sh v:=fun v => rows_agree
   simp only [VO.eff,ev_agree (x:=x) h1.left.right,ev_agree (x:=y) h1.right,ht,hr]
 | call alone f args reg =>
   have h1:AgreeOn S S' ((bif alone then [] else [.g]) ++ f.keys ++ args.flatMap fun p => p.2.keys):=h
   cases alone
   ·have hg:S.glob = S'.glob:=h .g (by simp [VO.rd])
    simp only [VO.eff,ev_agree (x:=f) h1.left.right,gargs_agree (ps:=args) h1.right,hg]
   ·simp only [VO.eff,ev_agree (x:=f) h1.left.right,pargs_agree (ps:=args) h1.right]
 | rcall f args =>
   have h1:AgreeOn S S' ([.g] ++ (f.keys ++ args.flatMap fun p => p.2.keys)):=h
   have hg:S.glob = S'.glob:=h .g (by simp [VO.rd])
   simp only [VO.eff,ev_agree (x:=f) h1.right.left,gargs_agree (ps:=args) h1.right.right,hg]
 | own f args id pos =>
   have h1:AgreeOn S S' (f.keys ++ args.flatMap fun p => p.2.keys):=h
   simp only [VO.eff,ev_agree (x:=f) h1.left,pargs_agree (ps:=args) h1.right]
 | mkobj id zero x => simp only [VO.eff,ev_agree (x:=x) h]
 | wrt k f i x =>
   have ho:look i S.objs = look i S'.objs:=h (.o i) (by simp [VO.rd])
   have hx:AgreeOn S S' x.keys:=fun k hk => h k (by simp [VO.rd,hk])
   simp only [VO.eff,ev_agree hx,ho]
 | appo nw src sh x y =>
   have ho:look src S.objs = look src S'.objs:=h (.o src) (by simp [VO.rd])
   have hx:AgreeOn S S' x.keys:=fun k hk => h k (by simp [VO.rd,hk])
   have hy:AgreeOn S S' y.keys:=fun k hk => h k (by simp [VO.rd,hk])
   have hr:∀ v,S.rows sh v = S'.rows sh v:=fun v => rows_agree
   simp only [VO.eff,ev_agree hx,ev_agree hy,ho,hr]
 | _ => exact eff_agree_frame rfl h
theorem look_cons_ne {α:Type} {s k:Nat} {v:α} {r:List (Nat × α)} (h:k ≠ s):look s ((k,v) :: r) = look s r:=by rw [look_cons,if_neg h]
theorem app_same {u:Out} {d:Option Nat} {k:Key} (h:same S S' k):same (u.app d S) (u.app d S') k:=by
 obtain ⟨v,obj,toks,glob,del⟩:=u
 cases k with
 | e s =>
   have h:look s S.env = look s S'.env:=h
   cases v with
   | none => exact h
   | some v =>
     cases d with
     | none => exact h
     | some d => show look s ((d,v) :: S.env) = look s ((d,v) :: S'.env);rw [look_cons,look_cons,h]
 | o id =>
   have h:look id S.objs = look id S'.objs:=h
   have:look id (Out.objs ⟨v,obj,toks,glob,del⟩ S.objs) = look id (Out.objs ⟨v,obj,toks,glob,del⟩ S'.objs):=by
    cases obj with
    | none => exact h
    | some p =>
      obtain ⟨i,cs⟩:=p
      cases del with
      | none => simp only [Out.objs,look_cons,h]
      | some q => simp only [Out.objs,look_cons,look_filt,h]
   cases v with
   | none => exact this
   | some v => cases d <;> exact this
 | t f =>
   have h:look f S.toks = look f S'.toks:=h
   have:look f (toks ++ S.toks) = look f (toks ++ S'.toks):=by rw [look_append,look_append,h]
   cases v with
   | none => exact this
   | some v => cases d <;> exact this
 | g =>
   have h:S.glob = S'.glob:=h
   have:(match glob with | some G => G | none => S.glob) = (match glob with | some G => G | none => S'.glob):=by
    cases glob with
    | none => exact h
    | some G => rfl
   cases v with
   | none => exact this
   | some v => cases d <;> exact this
def Within (u:Out) (K:List Key):Prop :=
 (∀ p,u.obj = some p → Key.o p.1 ∈ K ∧ ∀ i,u.del = some i → Key.o i ∈ K) ∧ (∀ p ∈ u.toks,Key.t p.1 ∈ K) ∧ (∀ G,u.glob = some G → Key.g ∈ K)
theorem within_stays {u:Out} {d:Option Nat} {K:List Key} (hw:Within u K) {k:Key} (hk:k ∉ (match d with | some d => [Key.e d] | none => []) ++ K):same (u.app d S) S k:=by
 obtain ⟨v,obj,toks,glob,del⟩:=u
 obtain ⟨h1,h2,h3⟩:=hw
 simp only at h1 h2 h3
 have hkK:k ∉ K:=fun h => hk (List.mem_append_right _ h)
 cases k with
 | e s =>
   cases v with
   | none => rfl
   | some v =>
     cases d with
     | none => rfl
     | some d =>
       have:d ≠ s:=fun e => hk (by subst e;simp)
       exact look_cons_ne this
 | o id =>
   have:look id (Out.objs ⟨v,obj,toks,glob,del⟩ S.objs) = look id S.objs:=by
    cases obj with
    | none => rfl
    | some p =>
      obtain ⟨i,cs⟩:=p
      obtain ⟨q1,q2⟩:=h1 _ rfl
      have hne:i ≠ id:=fun e => hkK (by rw [← e];exact q1)
      cases del with
      | none => exact look_cons_ne hne
      | some q =>
        simp only [Out.objs]
        rw [look_cons_ne hne,look_filt,if_neg (fun e => hkK (by rw [e];exact q2 q rfl))]
   cases v with
   | none => exact this
   | some v => cases d <;> exact this
 | t f =>
   have:look f (toks ++ S.toks) = look f S.toks:=by
    rw [look_append]
    cases hl:look f toks with
    | none => rfl
    | some j => exact absurd (h2 _ (look_mem hl)) hkK
   cases v with
   | none => exact this
   | some v => cases d <;> exact this
 | g =>
   cases glob with
   | none =>
     cases v with
     | none => rfl
     | some v => cases d <;> rfl
   | some G => exact absurd (h3 G rfl) hkK
theorem eff_within {vo:VO} {u:Out} (h:vo.eff C S = some u):Within u vo.wr:=by
 have val:∀ v K,Within (Out.val v) K:=fun v K => ⟨by simp [Out.val],by simp [Out.val],by simp [Out.val]⟩
 have frame:vo.frame = true → Within u vo.wr:=fun hfr => by
  rw [eff_frame C S vo hfr] at h
  cases hr:vo.run C (some 0) (St.mk S.env [] [] []) with
  | none => rw [hr] at h;cases h
  | some S1 =>
    rw [hr] at h
    simp only [Option.bind_some] at h
    split at h
    ·cases h;exact val _ _
    ·cases h
 cases vo with
 | mv x =>
   simp only [VO.eff] at h
   split at h
   ·cases h;exact val _ _
   ·cases h
 | pick c a b =>
   simp only [VO.eff] at h
   split at h
   ·split at h
    ·cases h;exact val _ _
    ·cases h
   ·cases h
 | obj id cells => simp only [VO.eff] at h;cases h;exact ⟨by simp [VO.wr],by simp,by simp⟩
 | box id x =>
   simp only [VO.eff] at h
   split at h
   ·rename_i v _
    cases hc:v.cells.all V.isCell with
    | false => simp [hc] at h
    | true => simp only [hc,cond_true] at h;cases h;exact ⟨by simp [VO.wr],by simp,by simp⟩
   ·cases h
 | gbox sh x =>
   simp only [VO.eff] at h
   split at h
   ·split at h
    ·cases h;exact ⟨by simp,by simp,by simp [VO.wr]⟩
    ·cases h
   ·cases h
 | galloc sh zero =>
   simp only [VO.eff] at h
   split at h
   ·cases h;exact ⟨by simp,by simp,by simp [VO.wr]⟩
   ·cases h
 | mkmap =>
   simp only [VO.eff] at h
   cases h;exact ⟨by simp,by simp,by simp [VO.wr]⟩
 | mapget ag ks zero ok x k =>
   simp only [VO.eff] at h
   split at h
   ·split at h
    ·split at h
     ·cases h;exact val _ _
     ·cases h;exact val _ _
     ·cases h
    ·cases h
   ·cases h
 | mapset ag ks sh x k y =>
   simp only [VO.eff] at h
   split at h
   ·split at h
    ·split at h
     ·cases h;exact ⟨by simp,by simp,by simp [VO.wr]⟩
     ·cases h;exact ⟨by simp,by simp,by simp [VO.wr]⟩
     ·cases h
    ·cases h
   ·cases h
 | build zero ps =>
   simp only [VO.eff] at h
   split at h
   ·cases h;exact val _ _
   ·cases h
 | lit tok sh zero ln ps =>
   simp only [VO.eff] at h
   split at h
   ·split at h
    ·cases h;exact ⟨by simp,by simp [VO.wr],by simp⟩
    ·cases h;exact val _ _
   ·cases h
 | load root sz x =>
   simp only [VO.eff] at h
   split at h
   ·rename_i a _
    cases hf:root.fits a with
    | false => simp [hf] at h
    | true =>
      simp only [hf,cond_true] at h
      split at h
      ·split at h
       ·cases h;exact val _ _
       ·cases h
      ·cases h
   ·cases h
 | lcall f args ids =>
   simp only [VO.eff] at h
   split at h
   ·split at h
    ·rename_i r _ _
     cases hs:r.scal with
     | false => rw [hs] at h;cases h
     | true => rw [hs] at h;cases h;exact val _ _
    ·cases h
   ·cases h
 | gtake fam x =>
   simp only [VO.eff] at h
   split at h
   ·split at h
    ·rename_i v ts G ht
     cases h
     unfold St.take at ht
     split at ht
     ·split at ht
      ·split at ht
       ·cases ht;exact ⟨by simp,by simp [VO.wr],by simp [VO.wr]⟩
       ·cases ht;exact ⟨by simp,by simp,by simp⟩
       ·cases ht
      ·cases ht
     ·cases ht
    ·cases h
   ·cases h
 | gput fam x y =>
   simp only [VO.eff] at h
   split at h
   ·split at h
    ·rename_i ts G ht
     cases h
     unfold St.give at ht
     split at ht
     ·split at ht
      ·rename_i k _ _
       rcases Bool.eq_false_or_eq_true (k == _ && Nat.blt _ _) with hc | hc
       ·rw [hc] at ht;cases ht;exact ⟨by simp,by simp [VO.wr],by simp [VO.wr]⟩
       ·rw [hc] at ht;cases ht
      ·cases ht
     ·cases ht
    ·cases h
   ·cases h
 | store root sh x y =>
   simp only [VO.eff] at h
   cases hf:S.fits root x with
   | false => simp [hf] at h
   | true =>
     simp only [hf,cond_true] at h
     simp only [St.fits] at hf
     split at h
     ·rename_i id off v hx hy
      rw [hx] at hf
      split at h
      ·rename_i cs _
       cases hc:(v.cells.length == sh.length && Nat.ble (off + sh.length) cs.length && v.cells.all V.isCell) with
       | false => simp [hc] at h
       | true =>
         simp only [hc,cond_true] at h
         cases h
         cases root with
         | loc i => simp [Root.fits] at hf;subst hf;exact ⟨by simp [VO.wr],by simp,by simp⟩
         | glob => simp [Root.fits] at hf
         | imm => simp [Root.fits] at hf
      ·cases h
     ·rename_i id off v hx hy
      rw [hx] at hf
      split at h
      ·rename_i cs _
       split at h
       ·rename_i vs _
        cases hc:Nat.ble (off + vs.length) cs.length with
        | false => simp [hc] at h
        | true =>
          simp only [hc,cond_true] at h
          cases h
          cases root with
          | glob => exact ⟨by simp,by simp,by simp [VO.wr]⟩
          | loc i => simp [Root.fits] at hf
          | imm => simp [Root.fits] at hf
       ·cases h
      ·cases h
     ·cases h
 | app fam src sh mx x y =>
   simp only [VO.eff] at h
   split at h
   ·split at h
    ·rename_i ys _
     cases hc:Nat.ble ys.length mx with
     | false => simp [hc] at h
     | true => simp only [hc,cond_true] at h;cases h;exact ⟨by simp,by simp [VO.wr],by simp⟩
    ·cases h
   ·split at h
    ·rename_i ys _
     cases hc:Nat.ble ys.length mx with
     | false => simp [hc] at h
     | true => simp only [hc,cond_true] at h;cases h;exact ⟨by simp,by simp [VO.wr],by simp⟩
    ·cases h
   ·rename_i f n es _ _ _
    split at h
    ·rename_i ys _
     split at h
     ·rename_i k hk
      cases hc:(k == es.length && (n == sh.length) && Nat.ble (es.length + ys.length) mx) with
      | false => simp [hc] at h
      | true =>
        simp only [hc,cond_true] at h
        cases h
        cases hs:src == some f with
        | false => simp [hs] at hk
        | true =>
          have:=eq_of_beq hs
          subst this
          exact ⟨by simp,by simp [VO.wr,tkeys],by simp⟩
     ·cases h
    ·cases h
   ·cases h
 | call alone f args reg =>
   have hreg:∀ r:V,∀ p ∈ (recv reg r).2,Key.t p.1 ∈ (regsOf reg).map Key.t:=fun r p hp => by
    rw [recv_eq] at hp
    obtain ⟨q,t,n,es,_,h2,_⟩:=recvL_tok reg _ 0 p.1 p.2 hp
    exact List.mem_map.2 ⟨p.1,List.mem_map.2 ⟨_,look_mem h2,rfl⟩,rfl⟩
   cases alone
   ·simp only [VO.eff] at h
    split at h
    ·split at h
     ·rename_i r G hc
      cases h
      exact ⟨by simp,fun p hp => List.mem_append_right _ (hreg r p hp),by simp [VO.wr]⟩
     ·cases h
    ·cases h
   ·simp only [VO.eff] at h
    split at h
    ·split at h
     ·rename_i r G hc
      cases hl:r.lone with
      | false => simp [hl] at h
      | true =>
        simp only [hl,cond_true] at h
        cases h
        exact ⟨by simp,fun p hp => List.mem_append_right _ (hreg r p hp),by simp⟩
     ·cases h
    ·cases h
 | rcall f args =>
   simp only [VO.eff] at h
   split at h
   ·split at h
    ·simp only [rd] at h
     split at h
     ·cases h;exact ⟨by simp [Out.val],by simp [Out.val],by simp [Out.val]⟩
     ·cases h
    ·cases h
   ·cases h
 | own f args id pos =>
   simp only [VO.eff] at h
   split at h
   ·split at h
    ·split at h
     ·cases h;exact ⟨by simp [VO.wr],by simp,by simp⟩
     ·cases h;exact val _ _
     ·cases h
    ·cases h
   ·cases h
 | appo nw src sh x y =>
   simp only [VO.eff] at h
   split at h
   ·split at h
    ·rename_i ys _
     cases hc:ys.isEmpty with
     | true => simp only [hc,cond_true] at h;cases h;exact val _ _
     | false =>
       simp only [hc,cond_false] at h
       cases hc:Nat.ble ys.length lim with
       | false => simp [hc] at h
       | true => simp only [hc,cond_true] at h;cases h;exact ⟨by simp [VO.wr],by simp,by simp⟩
    ·cases h
   ·split at h
    ·rename_i ys _
     cases hc:ys.isEmpty with
     | true => simp only [hc,cond_true] at h;cases h;exact val _ _
     | false =>
       simp only [hc,cond_false] at h
       cases hc:Nat.ble ys.length lim with
       | false => simp [hc] at h
       | true => simp only [hc,cond_true] at h;cases h;exact ⟨by simp [VO.wr],by simp,by simp⟩
    ·cases h
   ·rename_i id s ln _ _ _
    split at h
    ·rename_i ys cs _ _
     cases hc:((id == src) && (s == sh.length) && (cs.length == ln * s) && Nat.ble (ln + ys.length) lim) with
     | false => simp [hc] at h
     | true => simp only [hc,cond_true] at h;cases h;exact ⟨by simp [VO.wr],by simp,by simp⟩
    ·cases h
   ·cases h
 | wrt k f i x =>
   simp only [VO.eff] at h
   split at h
   ·rename_i id s n _
    split at h
    ·rename_i cs _
     cases hc:(id == i && (s == 1) && Nat.ble n cs.length && Nat.ble n lim) with
     | false => simp [hc] at h
     | true =>
       simp only [hc,cond_true] at h
       split at h
       ·cases h;exact ⟨by simp [VO.wr],by simp,by simp⟩
       ·cases h
    ·cases h
   ·cases h
 | mkobj id zero x =>
   simp only [VO.eff] at h
   split at h
   ·rename_i k n _
    cases hc:(decide (0 ≤ n) && decide (n ≤ (lim:Int))) with
    | false => simp [hc] at h
    | true => simp only [hc,cond_true] at h;cases h;exact ⟨by simp [VO.wr],by simp,by simp⟩
   ·cases h
 | _ => exact frame rfl
end
end Go.Vm
