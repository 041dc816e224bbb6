/- Parts of the proof, joined: Dam7, Dob1, Dam8, Dsm1, Ref4, Ref5, Ref6, Dst1, Dst2, Raw1. -/
import Derived.Test.YtfjdfnegookkcaaGreatDe
import Derived.Test.YtfjdfnegookkcaaGreatDf
namespace Go.Proofs.YtfjdfnegookkcaaGreat
set_option linter.all false
open Go.Vm
theorem nxu_valid {u:Un} {s:Us} (hv:validP u s) (q:Int):validP u (nxu u s q):=by
 have h1:=hv.2.1
 unfold nxu
 split
 ·rename_i hm
  refine ⟨hv.1,?_,?_⟩
  ·unfold nextS;simp only;split <;> omega
  ·unfold nextS;simp only
   unfold mayP at hm
   by_cases hq:q = 0
   ·exact .inl hq
   ·rw [if_neg hq] at hm;exact .inr ⟨hm.1,hm.2.2⟩
 ·exact ⟨hv.1,by simp,.inl rfl⟩
theorem bs_el {lv w:Int} {g:List Gt} {s:List Gs} (hl:g.length = s.length) (hs:allG g s) (hv:∀ i,i < g.length → Gv (nth g i)):∀ i,i ≤ g.length →
  ∀ j,j < g.length → 0 ≤ nth (bs lv w g s i).1 j ∧ nth (bs lv w g s i).1 j ≤ (nth g j).most:=by
 intro i
 induction i with
 | zero =>
   intro _ j hj
   have hr:=rch_ok (hv j hj) (hs j hj)
   simp only [bs]
   rw [gel_nth hj (by omega)]
   omega
 | succ i ih =>
   intro hi j hj
   simp only [bs]
   rw [nth_set (by rw [bs_len hl];omega)]
   split
   ·rename_i e
    subst e
    have hr:=rch_ok (hv i hj) (hs i hj)
    have ho:=opn_range (lv:=lv) (w:=w) (hv i hj) (hs i hj) (bs lv w g s i).2
    omega
   ·exact ih (by omega) j hj
theorem setS_len {g:List Gt} {s:List Gs} {lv w:Int} (h:aE g s lv = 0) (hw:0 ≤ w ∧ w ≤ 1073741824):(setS g s lv w).length = g.length ∧ allG g (setS g s lv w):=by
 obtain ⟨h1,h2,h3,h4,h5⟩:=aE_zero h
 have hE:setE g s lv w = 0:=by simp [setE,h,hw]
 have hS:setS g s lv w = outS (bs lv w g s g.length).1 s:=by unfold setS;rw [if_pos hE]
 have hb:=bs_len (lv:=lv) (w:=w) h2 g.length
 rw [hS]
 refine ⟨by simp [outS];omega,fun i hi => ?_⟩
 unfold outS
 rw [nth_zip (by omega) (by omega)]
 exact bs_el h2 h3 h4 g.length (Nat.le_refl _) i hi
theorem nus_nth {d:Dm} {s:Ds} {m:Int} {n i:Nat} (hi:i < n):nth (nus d s m n) i = nxu (nth d.u i) (nth s.u i) (flw d s m i):=by
 unfold nus
 simp [nth,hi]
theorem stS_fit {d:Dm} (h:Dv d) {s:Ds} (hf:dfit d s) {inf los rel:Int} (hi:0 ≤ inf ∧ inf ≤ 1073741824) (hl:0 ≤ los ∧ los ≤ 1073741824) (hr:0 ≤ rel ∧ rel ≤ 1073741824):dfit d (stS d s inf los rel):=by
 have p:=stp_of h hf hi hl hr
 have hv:=hf.1
 have hC:=dCr_range h.r
 have hD:=dDd_range h.r
 have hT:=p.T0
 have hP:=p.P0
 have hs:=p.sum
 have hL:=p.L
 have hfr:fre d (stL s inf los) ≤ stL s inf los:=by unfold fre;omega
 have hO:stO d s inf los rel = max (stL s inf los - (stT d s inf los rel + stP d s inf los rel) - dCr d) 0:=rfl
 have hg:=setS_len (aE_dam h hf) p.w0
 refine ⟨?_,?_,nus_len,hg.1,fun i hi => ?_,hg.2⟩
 ·show 0 ≤ stL s inf los - (stT d s inf los rel + stP d s inf los rel) - stO d s inf los rel ∧ stL s inf los - (stT d s inf los rel + stP d s inf los rel) - stO d s inf los rel ≤ dCr d
  omega
 ·show 0 ≤ min (stT d s inf los rel + stP d s inf los rel) 1073741824 ∧ min (stT d s inf los rel + stP d s inf los rel) 1073741824 ≤ 1073741824
  omega
 ·show validP (nth d.u i) (nth (nus d s _ d.u.length) i)
  rw [nus_nth hi]
  exact nxu_valid (hf.2.2.2.2.1 i hi) _
def balL (a b:Ds) (r:Dr):List Int:=[a.v,b.v,r.inf,r.los,r.tur,r.spi,r.ovr]
def balIn (n:Int):Prop:=0 ≤ n ∧ n ≤ 274877906944
instance {n:Int}:Decidable (balIn n):=inferInstanceAs (Decidable (_ ∧ _))
def balP (a b:Ds) (r:Dr):Prop:=(∀ i,i < 7 → balIn (nth (balL a b r) i)) ∧ b.v = a.v + r.inf - r.los - r.tur - r.spi - r.ovr
noncomputable instance {a b:Ds} {r:Dr}:Decidable (balP a b r):=Classical.propDecidable _
end Go.Proofs.YtfjdfnegookkcaaGreat
namespace Go.Proofs.YtfjdfnegookkcaaGreat
set_option linter.all false
open Go.Vm
theorem obeys {d:Dm} (h:Dv d) {s:Ds} (hf:dfit d s) {rel:Int} (hr:0 ≤ rel ∧ rel ≤ 1073741824) :
  stT d s 0 0 rel + stP d s 0 0 rel ≤ max 0 (s.v - dDd d) ∧ stO d s 0 0 rel = 0 ∧ (stS d s 0 0 rel).v = s.v - stT d s 0 0 rel - stP d s 0 0 rel ∧
  (0 ≤ stT d s 0 0 rel ∧ stT d s 0 0 rel ≤ 1099511627776) ∧ (0 ≤ stP d s 0 0 rel ∧ stP d s 0 0 rel ≤ 1099511627776) ∧
  (d.u.length = 0 → min (min rel (max 0 (s.v - dDd d))) (canB d s) ≤ stP d s 0 0 rel):=by
 have p:=stp_of h hf (inf:=0) (los:=0) (rel:=rel) (by omega) (by omega) hr
 have hv:=hf.1
 have hL:=p.L
 have hL:stL s 0 0 = s.v:=by omega
 have hF:fre d (stL s 0 0) = max 0 (s.v - dDd d):=by rw [hL];unfold fre;omega
 have hs:=p.sum
 have hT:=p.T0
 have hTr:=p.Tr
 have hP:=p.P0
 have hP1:=p.P1
 rw [hF] at hs
 have hO:stO d s 0 0 rel = 0:=by unfold stO;rw [hL];omega
 refine ⟨hs,hO,?_,⟨hT,by omega⟩,⟨hP,by omega⟩,fun hu => ?_⟩
 ·show stL s 0 0 - (stT d s 0 0 rel + stP d s 0 0 rel) - stO d s 0 0 rel = _
  rw [hO,hL];omega
 ·have hT0:stT d s 0 0 rel = 0:=by unfold stT;rw [hu];rfl
  have he:dE d s = 0:=by
   unfold dE
   have hc:dChk d = 0:=by
    unfold dChk
    rw [if_neg (fun g => g h.r),if_neg (by have:=h.g;omega),if_neg (fun g => g (fsE_zero fun i _ hi => h.uv i (by omega))),if_neg (fun g => g (fsE_zero fun i _ hi => h.gv i (by omega))),if_neg (by have:=h.gr;omega)]
   rw [if_neg (fun g => g hc),if_pos hf]
  have hc:canB d s = uHi d.u s.u d.gr + gMost d.g s.g (hgt d.r s.v):=by simp [canB,lvl,he]
  have hu0:uHi d.u s.u d.gr = 0:=by
   have hu1:d.u = []:=List.length_eq_zero_iff.1 hu
   unfold uHi
   split
   ·simp [hiS,hu1]
   ·rfl
  have hm:=setF_most d.g s.g (hgt d.r s.v) (wnt d rel (stL s 0 0) (stT d s 0 0 rel)) p.w0
  have hw:wnt d rel (stL s 0 0) (stT d s 0 0 rel) = min rel (max 0 (s.v - dDd d)):=by unfold wnt;rw [hF,hT0];omega
  have hPe:stP d s 0 0 rel = min (setF d.g s.g (hgt d.r s.v) (wnt d rel (stL s 0 0) (stT d s 0 0 rel))) (fre d (stL s 0 0) - stT d s 0 0 rel):=rfl
  rw [hPe,hF,hT0]
  rw [hT0] at hm hw
  rw [hw] at hm ⊢
  rw [hc,hu0]
  omega
theorem stAns_ok {d:Dm} (hc:dChk d = 0) {s:Ds} (hf:dfit d s) {inf los rel:Int} (hi:0 ≤ inf ∧ inf ≤ 1073741824) (hl:0 ≤ los ∧ los ≤ 1073741824) (hr:0 ≤ rel ∧ rel ≤ 1073741824) :
  stAns d s inf los rel = .tuple [dst (stS d s inf los rel),dr (stR d s inf los rel),i64 0]:=by
 have hd:dE d s = 0:=by unfold dE;rw [if_neg (fun g => g hc),if_pos hf]
 have ho:[inf,los,rel].any out1 = false:=by simp [out1];omega
 have he:stE' d s inf los rel = 0:=by unfold stE';rw [if_neg (fun g => g hd),ho];rfl
 unfold stAns
 rw [if_pos he]
end Go.Proofs.YtfjdfnegookkcaaGreat
namespace Go.Proofs.YtfjdfnegookkcaaGreat
set_option linter.all false
open Go.Vm
noncomputable def rnS (d:Dm) (s:Ds) (A B C:List Int):Nat → Ds
 | 0 => s
 | i + 1 => stS d (rnS d s A B C i) (nth A i) (nth B i) (nth C i)
noncomputable def rnR (d:Dm) (s:Ds) (A B C:List Int) (i:Nat):Dr:=stR d (rnS d s A B C i) (nth A i) (nth B i) (nth C i)
noncomputable def rnL (d:Dm) (s:Ds) (A B C:List Int) (n:Nat):List Dr:=(List.range n).map (rnR d s A B C)
theorem rnL_succ {d:Dm} {s:Ds} {A B C:List Int} {n:Nat}:rnL d s A B C (n + 1) = rnL d s A B C n ++ [rnR d s A B C n]:=by simp [rnL,List.range_succ]
theorem rnL_len {d:Dm} {s:Ds} {A B C:List Int} {n:Nat}:(rnL d s A B C n).length = n:=by simp [rnL]
def inR (A:List Int):Prop:=∀ i,i < A.length → 0 ≤ nth A i ∧ nth A i ≤ 1073741824
abbrev drs (l:List Dr):V:=.slice (some 0) 7 (l.map Dr.row)
end Go.Proofs.YtfjdfnegookkcaaGreat
namespace Go.Proofs.YtfjdfnegookkcaaGreat
set_option linter.all false
open Go.Vm
attribute [local simp] cond_yes cond_yes2 int_beq int_bne
theorem rnS_take {d:Dm} {s:Ds} {A B C:List Int} {m:Nat}:∀ i,i ≤ m → rnS d s (A.take m) (B.take m) (C.take m) i = rnS d s A B C i
 | 0,_ => rfl
 | i + 1,h => by
   simp only [rnS]
   rw [rnS_take i (by omega),nth_take (by omega),nth_take (by omega),nth_take (by omega)]
theorem nth_drop' {α:Type} [Inhabited α] {l:List α} {i k:Nat}:nth (l.drop k) i = nth l (k + i):=by simp [nth,List.getElem?_drop]
theorem rnS_drop {d:Dm} {s:Ds} {A B C:List Int} {m:Nat}:∀ i,rnS d (rnS d s A B C m) (A.drop m) (B.drop m) (C.drop m) i = rnS d s A B C (m + i)
 | 0 => rfl
 | i + 1 => by
   rw [← Nat.add_assoc]
   simp only [rnS]
   rw [rnS_drop i,nth_drop',nth_drop',nth_drop']
theorem rnL_take {d:Dm} {s:Ds} {A B C:List Int} {m:Nat}:rnL d s (A.take m) (B.take m) (C.take m) m = rnL d s A B C m:=by
 unfold rnL
 refine List.map_congr_left fun i hi => ?_
 have hi:=List.mem_range.1 hi
 unfold rnR
 rw [rnS_take i (by omega),nth_take hi,nth_take hi,nth_take hi]
theorem rnL_drop {d:Dm} {s:Ds} {A B C:List Int} {m n:Nat}:rnL d s A B C m ++ rnL d (rnS d s A B C m) (A.drop m) (B.drop m) (C.drop m) n = rnL d s A B C (m + n):=by
 unfold rnL
 rw [List.range_add,List.map_append,List.map_map]
 congr 1
 refine List.map_congr_left fun i _ => ?_
 unfold rnR
 rw [rnS_drop,nth_drop',nth_drop',nth_drop']
 rfl
theorem inR_take {A:List Int} (h:inR A) (m:Nat):inR (A.take m):=fun i hi => by
 simp at hi
 rw [nth_take (by omega)]
 exact h i (by omega)
theorem inR_drop {A:List Int} (h:inR A) (m:Nat):inR (A.drop m):=fun i hi => by
 simp at hi
 rw [nth_drop']
 exact h _ (by omega)
theorem c_r20_Same_refl (g:List Gs) (hg:g.length ≤ 1000) (G:List GObj):Lim F 64 [gss g,gss g] G = some (.bool true,G) :=
 eq_of rfl rfl (by
  simp +contextual (disch:=omega) [-getElem?_pos,-List.length_eq_zero_iff,-Int.natCast_eq_zero,wrap64,v_r20_Same]
  refine go_loop (fun i:Nat => v_r20_Same_s0 (gss g) (gss g) g.length i G) (fun i => i ≤ g.length) (fun i => g.length - i) 0 rfl (by simp) (by omega) ?_
  intro i hi
  simp +contextual (disch:=omega) [-getElem?_pos,-List.length_eq_zero_iff,-Int.natCast_eq_zero,wrap64,v_r20_Same_b0]
  refine cnd_dec (fun h5 => ?_) (fun h5 => ?_)
  ·have h5:i < g.length:=by omega
   simp +contextual (disch:=omega) [-getElem?_pos,-List.length_eq_zero_iff,-Int.natCast_eq_zero,wrap64,get_nth (l:=g),V.aeq,eqCells,eqCell]
   refine rnd_next (i + 1) (by simp) (by omega) (by omega)
  ·trivial)
theorem c_r22_Same_refl (s:Ds) (hu:s.u.length ≤ 1000) (hg:s.g.length ≤ 1000) (G:List GObj):Lim F 27 [dst s,dst s] G = some (.bool true,G) :=
 eq_of rfl rfl (by
  have h:=c_r20_Same_refl s.g hg []
  simp +contextual (disch:=omega) [-getElem?_pos,-List.length_eq_zero_iff,-Int.natCast_eq_zero,wrap64,v_r22_Same,h]
  refine go_loop (fun i:Nat => v_r22_Same_s0 s.u.length i s.row s.row G) (fun i => i ≤ s.u.length) (fun i => s.u.length - i) 0 rfl (by simp) (by omega) ?_
  intro i hi
  simp +contextual (disch:=omega) [-getElem?_pos,-List.length_eq_zero_iff,-Int.natCast_eq_zero,wrap64,v_r22_Same_b0]
  refine cnd_dec (fun h5 => ?_) (fun h5 => ?_)
  ·have h5:i < s.u.length:=by omega
   simp +contextual (disch:=omega) [-getElem?_pos,-List.length_eq_zero_iff,-Int.natCast_eq_zero,wrap64,get_nth (l:=s.u),V.aeq,eqCells,eqCell]
   refine rnd_next (i + 1) (by simp) (by omega) (by omega)
  ·trivial)
end Go.Proofs.YtfjdfnegookkcaaGreat
namespace Go.Proofs.YtfjdfnegookkcaaGreat
set_option linter.all false
open Go.Vm
attribute [local simp] cond_yes cond_yes2 int_beq int_bne
theorem ipol_iff {c:List Pt} (h:Cv c) {y x:Int} {i:Nat} (hi:i + 1 < c.length) (h1:(nth c i).y ≤ y) (h2:y < (nth c (i + 1)).y) (hx:(nth c i).x ≤ x):ipol c (i + 1) x ≤ y ↔ x ≤ lpol c y i:=by
 have u1:=h.up (i + 1) (by omega) hi
 simp only [Nat.add_sub_cancel] at u1
 have a2:0 < (y - (nth c i).y + 1) * ((nth c (i + 1)).x - (nth c i).x):=Int.mul_pos (by omega) (by omega)
 have a3:0 ≤ ((nth c (i + 1)).y - (nth c i).y) * (x - (nth c i).x):=Int.mul_nonneg (by omega) (by omega)
 unfold ipol lpol
 simp only [Nat.add_sub_cancel]
 rw [Int.tdiv_eq_ediv_of_nonneg a3,Int.tdiv_eq_ediv_of_nonneg (by omega)]
 have e1:((nth c (i + 1)).y - (nth c i).y) * (x - (nth c i).x) / ((nth c (i + 1)).x - (nth c i).x) < y - (nth c i).y + 1 ↔ ((nth c (i + 1)).y - (nth c i).y) * (x - (nth c i).x) < (y - (nth c i).y + 1) * ((nth c (i + 1)).x - (nth c i).x) :=
  Int.ediv_lt_iff_lt_mul (by omega)
 have e2:x - (nth c i).x ≤ ((y - (nth c i).y + 1) * ((nth c (i + 1)).x - (nth c i).x) - 1) / ((nth c (i + 1)).y - (nth c i).y) ↔ (x - (nth c i).x) * ((nth c (i + 1)).y - (nth c i).y) ≤ (y - (nth c i).y + 1) * ((nth c (i + 1)).x - (nth c i).x) - 1 :=
  Int.le_ediv_iff_mul_le (by omega)
 rw [Int.mul_comm (x - (nth c i).x)] at e2
 constructor
 ·intro g
  have:=e2.2 (by have:=e1.1 (by omega);omega)
  omega
 ·intro g
  have:=e1.2 (by have:=e2.1 (by omega);omega)
  omega
theorem cval_pt {c:List Pt} (h:Cv c) {i:Nat} (hi:i < c.length):cval c (nth c i).x = (nth c i).y:=by
 rcases Nat.eq_zero_or_pos i with rfl | h0
 ·exact cval_first h (Int.le_refl _)
 ·have u:=h.up i h0 hi
  rw [cval_mid h h0 hi (by omega) (Int.le_refl _),ipol,Int.mul_tdiv_cancel _ (by omega)]
  omega
theorem clF_char {c:List Pt} (h:Cv c) {y:Int}:∀ (m i:Nat),i + m = c.length - 1 → (nth c i).y ≤ y → cval c (clF c y m i) ≤ y ∧ ∀ x,clF c y m i < x → x ≤ (nth c (c.length - 1)).x → y < cval c x
 | 0,i,hi,hy => by
   have hp:=h.pos
   unfold clF
   rw [cval_pt h (by omega)]
   obtain rfl:i = c.length - 1:=by omega
   exact ⟨hy,fun x a b => by omega⟩
 | m + 1,i,hi,hy => by
   have hp:=h.pos
   unfold clF
   split
   ·rename_i h2
    have hr:=lpol_range h (i:=i) (by omega) hy h2
    refine ⟨?_,fun x a b => ?_⟩
    ·rw [cval_mid h (i:=i + 1) (by omega) (by omega) (by simpa using hr.1) hr.2]
     exact (ipol_iff h (by omega) hy h2 hr.1).2 (Int.le_refl _)
    ·rcases Int.lt_or_le (nth c (i + 1)).x x with h3 | h3
     ·have:=cval_mono h (show (nth c (i + 1)).x ≤ x by omega)
      rw [cval_pt h (by omega)] at this
      omega
     ·rw [cval_mid h (i:=i + 1) (by omega) (by omega) (by simp only [Nat.add_sub_cancel];omega) h3]
      have:=not_congr (ipol_iff h (x:=x) (by omega) hy h2 (by omega))
      omega
   ·exact clF_char h m (i + 1) (by omega) (by omega)
theorem c_r02_Last {c:List Pt} (h:cChk c = 0) (y:Int) (G:List GObj) :
  Lim F 82 [pts c,i64 y] G = some (.tuple [i64 (if y < (nth c 0).y then 0 else clast c y),.bool (decide ((nth c 0).y ≤ y)),i64 0],G) :=
 eq_of rfl rfl (by
  have hc:=cv_of h
  have hp:=hc.pos
  have hl:=hc.few
  have h3:((c.length:Int) - 1).toNat = c.length - 1:=by omega
  have h4:0 ≤ (c.length:Int) - 1:=by omega
  have h5:c.length - 1 < c.length:=by omega
  have x0:=hc.x0 0 hp
  have x1:=hc.x0 (c.length - 1) h5
  have hxl:=cv_xle hc (i:=0) (j:=c.length - 1) (by omega) h5
  have hA:=fun x => c_r02_at hc x []
  have hA0:=hA (nth c 0).x
  rw [cval_pt hc hp] at hA0
  by_cases h1:y < (nth c 0).y
  ·have h2:¬ (nth c 0).y ≤ y:=by omega
   simp +contextual (disch:=omega) [-getElem?_pos,-List.length_eq_zero_iff,-Int.natCast_eq_zero,wrap64,v_r02_Last,c_r02_Check,h,get_nth (l:=c),hp,h3,h4,h5,hA0,h1,h2]
  ·have h2:(nth c 0).y ≤ y:=by omega
   have hch:=clF_char hc (y:=y) (c.length - 1) 0 (by omega) h2
   have hrg:=clF_range hc (y:=y) (c.length - 1) 0 (by omega) h2
   have hcl:clF c y (c.length - 1) 0 = clast c y:=rfl
   rw [hcl] at hch hrg
   simp +contextual (disch:=omega) [-getElem?_pos,-List.length_eq_zero_iff,-Int.natCast_eq_zero,wrap64,v_r02_Last,c_r02_Check,h,get_nth (l:=c),hp,h3,h4,h5,hA0,h1,h2]
   refine go_loop (fun s:Int × Int => v_r02_Last_s0 (pts c) y s.1 s.2 G) (fun s => (nth c 0).x ≤ s.1 ∧ s.1 ≤ clast c y ∧ clast c y ≤ s.2 ∧ s.2 ≤ (nth c (c.length - 1)).x) (fun s => (s.2 - s.1).toNat) ((nth c 0).x,(nth c (c.length - 1)).x) rfl (by simp) ⟨by simp,hrg.1,hrg.2,by simp⟩ ?_
   rintro ⟨lo,hi⟩ ⟨b1,b2,b3,b4⟩
   simp only at b1 b2 b3 b4
   have d1:0 ≤ (hi - lo).tdiv 2:=Int.tdiv_nonneg (by omega) (by omega)
   have d2:(hi - lo).tdiv 2 = (hi - lo) / 2:=Int.tdiv_eq_ediv_of_nonneg (by omega)
   have hAm:=hA (hi - (hi - lo).tdiv 2)
   simp +contextual (disch:=omega) [-getElem?_pos,-List.length_eq_zero_iff,-Int.natCast_eq_zero,wrap64,v_r02_Last_b0,hAm]
   refine cnd_dec (fun h6 => ?_) (fun h6 => ?_)
   ·refine cnd_dec (fun h7 => ?_) (fun h7 => ?_)
    ·refine rnd_next (hi - (hi - lo).tdiv 2,hi) (by simp) ⟨by simp only;omega,?_,b3,b4⟩ (by simp only;omega)
     simp only
     refine Int.not_lt.1 fun h8 => ?_
     have:=hch.2 _ h8 (by omega)
     omega
    ·refine rnd_next (lo,hi - (hi - lo).tdiv 2 - 1) (by simp) ⟨b1,b2,?_,by simp only;omega⟩ (by simp only;omega)
     simp only
     refine Int.not_lt.1 fun h8 => ?_
     have:=cval_mono hc (show hi - (hi - lo).tdiv 2 ≤ clast c y by omega)
     have:=hch.1
     omega
   ·have:lo = clast c y:=by omega
    subst this
    simp +contextual (disch:=omega) [-getElem?_pos,-List.length_eq_zero_iff,-Int.natCast_eq_zero,wrap64,h1,h2])
theorem c_r03_Level {r:Rs} (h:sChk r = 0) {v:Int} (hv:0 ≤ v ∧ v ≤ 274877906944) (G:List GObj):Lim F 56 [.agg r.cells,i64 v] G = some (.tuple [i64 (hgt r v),i64 0],G) :=
 eq_of rfl rfl (by
  have hp:=(cv_of (sChk_c h)).pos
  have hin:(decide (0 ≤ v) && decide (v ≤ 274877906944)) = true:=by simp;omega
  by_cases h1:v < (nth r.c 0).y
  ·have h2:¬ (nth r.c 0).y ≤ v:=by omega
   simp +contextual (disch:=omega) [-getElem?_pos,-List.length_eq_zero_iff,-Int.natCast_eq_zero,wrap64,v_r03_Level,c_r03_Check,h,c_r01_In,hin,c_r02_Last (sChk_c h),h1,h2,get_nth (l:=r.c),hp,hgt]
  ·have h2:(nth r.c 0).y ≤ v:=by omega
   simp +contextual (disch:=omega) [-getElem?_pos,-List.length_eq_zero_iff,-Int.natCast_eq_zero,wrap64,v_r03_Level,c_r03_Check,h,c_r01_In,hin,c_r02_Last (sChk_c h),h1,h2,get_nth (l:=r.c),hp,hgt])
theorem dCr_vol {d:Dm} (h:sChk d.r = 0):dCr d ≤ 274877906944:=by
 have hc:=cv_of (sChk_c h)
 have h1:=cval_range hc d.r.t
 have hp:=hc.pos
 have h3:=hc.y0 (d.r.c.length - 1) (by omega)
 have:dCr d = cval d.r.c d.r.t:=rfl
 omega
theorem c_r22_Level (d:Dm) (s:Ds) (G:List GObj):Lim F 21 [dm d,dst s] G = some (.tuple [i64 (lvl d s),i64 (dE d s)],G) :=
 eq_of rfl rfl (by
  by_cases hd:dE d s = 0
  ·obtain ⟨hdv,hf⟩:=dE_zero hd
   have hv:=hf.1
   have hC:=dCr_vol hdv.r
   simp +contextual (disch:=omega) [-getElem?_pos,-List.length_eq_zero_iff,-Int.natCast_eq_zero,wrap64,v_r22_Level,c_r22_wrong,hd,c_r03_Level hdv.r,hv,lvl]
  ·simp +contextual (disch:=omega) [-getElem?_pos,-List.length_eq_zero_iff,-Int.natCast_eq_zero,wrap64,v_r22_Level,c_r22_wrong,hd,lvl])
theorem c_r22_Can (d:Dm) (s:Ds) (G:List GObj):Lim F 23 [dm d,dst s] G = some (.tuple [.agg [i64 (canA d s),i64 (canB d s)],i64 (dE d s)],G) :=
 eq_of rfl rfl (by
  have h1:=c_r19_Range d.u s.u d.gr []
  rw [rngV_eq] at h1
  have h2:=c_r20_Range d.g s.g (lvl d s) []
  rw [grV_eq] at h2
  have r1:=uLo_range (us:=d.u) (ss:=s.u) (g:=d.gr)
  have r2:=gMost_range (g:=d.g) (s:=s.g) (lv:=lvl d s)
  by_cases h:dE d s = 0
  ·have e1:canA d s = uLo d.u s.u d.gr + gLeast d.g s.g (lvl d s):=by simp [canA,h]
   have e2:canB d s = uHi d.u s.u d.gr + gMost d.g s.g (lvl d s):=by simp [canB,h]
   rw [e1,e2]
   simp +contextual (disch:=omega) [-getElem?_pos,-List.length_eq_zero_iff,-Int.natCast_eq_zero,wrap64,v_r22_Can,c_r22_Level,h,h1,h2]
  ·have e1:canA d s = 0:=by simp [canA,h]
   have e2:canB d s = 0:=by simp [canB,h]
   rw [e1,e2]
   simp +contextual (disch:=omega) [-getElem?_pos,-List.length_eq_zero_iff,-Int.natCast_eq_zero,wrap64,v_r22_Can,c_r22_Level,h])
end Go.Proofs.YtfjdfnegookkcaaGreat
namespace Go.Proofs.YtfjdfnegookkcaaGreat
set_option linter.all false
open Go.Vm
attribute [local simp] cond_yes cond_yes2 int_beq int_bne
theorem pwF_snoc:∀ {a:List Un} {E:List Int} {u:Un} {q:Int},a.length = E.length → pwF (a ++ [u]) (E ++ [q]) = pwF a E + pow u q
 | [],[],_,_,_ => by simp [pwF]
 | u :: a,q :: E,w,z,h => by
   have:=pwF_snoc (a:=a) (E:=E) (u:=w) (q:=z) (by simpa using h)
   simp only [List.cons_append,pwF,this];omega
 | [],_ :: _,_,_,h => by simp at h
 | _ :: _,[],_,_,h => by simp at h
theorem stF_snoc:∀ {a:List Us} {E:List Int} {u:Us} {q:Int},a.length = E.length → stF (a ++ [u]) (E ++ [q]) = stF a E + stt u q
 | [],[],_,_,_ => by simp [stF]
 | u :: a,q :: E,w,z,h => by
   have:=stF_snoc (a:=a) (E:=E) (u:=w) (q:=z) (by simpa using h)
   simp only [List.cons_append,stF,this];omega
 | [],_ :: _,_,_,h => by simp at h
 | _ :: _,[],_,_,h => by simp at h
theorem pwF_ssum {us:List Un} {F:List Int} (h:F.length = us.length):∀ i,i ≤ us.length → ssum (fun j => pow (nth us j) (nth F j)) i = pwF (us.take i) (F.take i)
 | 0,_ => by simp [ssum,pwF]
 | i + 1,hi => by
   rw [take_snoc (l:=us) (by omega),take_snoc (l:=F) (by omega),pwF_snoc (by simp;omega),← pwF_ssum h i (by omega)]
   rfl
theorem stF_ssum {ss:List Us} {F:List Int} (h:F.length = ss.length):∀ i,i ≤ ss.length → ssum (fun j => stt (nth ss j) (nth F j)) i = stF (ss.take i) (F.take i)
 | 0,_ => by simp [ssum,stF]
 | i + 1,hi => by
   rw [take_snoc (l:=ss) (by omega),take_snoc (l:=F) (by omega),stF_snoc (by simp;omega),← stF_ssum h i (by omega)]
   rfl
theorem nxu_zero {u:Un} {s:Us} (hv:validP u s):nxu u s 0 = ⟨0,if 0 < s.flow then 1 else min 1000 (s.since + 1),s.out⟩:=by
 have hc:=hv.1
 have hf:0 ≤ s.flow:=by
  rcases hv.2.2 with h | ⟨_,h⟩
  ·omega
  ·have:=runs_pos hc h;omega
 unfold nxu
 by_cases h1:0 < s.flow
 ·rw [if_pos h1]
  split
  ·unfold nextS
   rw [if_neg (by simp [h1])]
  ·rfl
 ·rw [if_neg h1,if_pos]
  ·unfold nextS
   rw [if_pos (by simp [h1])]
  ·unfold mayP
   rw [if_pos rfl]
   exact fun h => absurd h h1
theorem c_r22_units {d:Dm} (hdv:Dv d) {s:Ds} (hf:dfit d s) {q:Int} (hq:0 ≤ q ∧ q ≤ 1073741824) (G:List GObj) :
  Lim F 62 [dm d,dst s,i64 q] G = some (.tuple [stsO (nus d s (min q (200 * d.gr)) d.u.length),i64 (ssum (flw d s (min q (200 * d.gr))) d.u.length),i64 (ssum (pww d s (min q (200 * d.gr))) d.u.length),i64 (ssum (sta d s (min q (200 * d.gr))) d.u.length)],G) :=
 eq_of rfl rfl (by
  obtain ⟨t,hb⟩:=c_r19_Best d.u s.u d.gr (min q (200 * d.gr)) []
  have hgr:=hdv.gr
  have hu6:=hdv.u
  have hul:=hf.2.2.1
  generalize hM:min q (200 * d.gr) = M at *
  by_cases he:bestE d.u s.u d.gr M = 0
  ·obtain ⟨h1,h2⟩:=bestE_feas he
   have hl:=feas_len h1
   have hV:=c_r19_Value d.u s.u (bestL d.u s.u d.gr M) (by omega) []
   rw [valO_feas h1] at hV
   simp only [valV] at hV
   have f1:flw d s M = fun j => nth (bestL d.u s.u d.gr M) j:=by funext j;simp [flw,he]
   have f2:pww d s M = fun j => pow (nth d.u j) (nth (bestL d.u s.u d.gr M) j):=by funext j;simp only [pww,f1]
   have f3:sta d s M = fun j => stt (nth s.u j) (nth (bestL d.u s.u d.gr M) j):=by funext j;simp only [sta,f1]
   have e1:ssum (flw d s M) d.u.length = (bestL d.u s.u d.gr M).sum:=by rw [f1,ssum_nth _ _ (by omega),List.take_of_length_le (by omega)]
   have e2:ssum (pww d s M) d.u.length = pwF d.u (bestL d.u s.u d.gr M):=by rw [f2,pwF_ssum hl.1 _ (Nat.le_refl _),List.take_of_length_le (by omega),List.take_of_length_le (by omega)]
   have e3:ssum (sta d s M) d.u.length = stF s.u (bestL d.u s.u d.gr M):=by rw [f3,stF_ssum hl.2 _ (by omega),List.take_of_length_le (by omega),List.take_of_length_le (by omega)]
   rw [e1,e2,e3]
   generalize hE:bestL d.u s.u d.gr M = E at *
   generalize pwF d.u E = PW at *
   generalize stF s.u E = ST at *
   generalize E.sum = SU at *
   simp +contextual (disch:=omega) [-getElem?_pos,-List.length_eq_zero_iff,-Int.natCast_eq_zero,wrap64,v_r22_units,hM,hb,he,hV]
   refine go_loop (fun i:Nat => v_r22_units_s1 (.slice none 1 (E.map fun n => [i64 n])) (.slice (some 1063) 3 ((nus d s M i).map Us.row)) SU PW ST (uns d.u) d.u.length i s.row i G) (fun i => i ≤ d.u.length) (fun i => d.u.length - i) 0 rfl (by simp [nus]) (by omega) ?_
   intro i hi
   have hnl:=nus_len (d:=d) (s:=s) (m:=M) (n:=i)
   simp +contextual (disch:=omega) [-getElem?_pos,-List.length_eq_zero_iff,-Int.natCast_eq_zero,wrap64,v_r22_units_b1]
   refine cnd_dec (fun h5 => ?_) (fun h5 => ?_)
   ·have h5:i < d.u.length:=by omega
    have h6:i < s.u.length:=by omega
    have h7:i < E.length:=by omega
    have hv:validP (nth d.u i) (nth s.u i):=hf.2.2.2.2.1 i h5
    have hfl:flw d s M i = nth E i:=by rw [f1]
    have hm:mayP (nth d.u i) (nth s.u i) (nth E i):=(mem_chs.1 (feas_nth h1 i h5)).2.2
    have hN:=c_r18_Next (nth d.u i) (nth s.u i) (nth E i) []
    have hnE:nextE (nth d.u i) (nth s.u i) (nth E i) = 0:=by rw [nextE_next hv,if_pos hm]
    rw [if_pos hnE] at hN
    have hx:nxu (nth d.u i) (nth s.u i) (nth E i) = nextS (nth s.u i) (nth E i):=by simp [nxu,hm]
    simp +contextual (disch:=omega) [-getElem?_pos,-List.length_eq_zero_iff,-Int.natCast_eq_zero,wrap64,get_nth (l:=d.u),get_nth (l:=s.u),get_int (l:=E),hN,hnl]
    refine rnd_next (i + 1) (by simp [nus_succ,hfl,hx]) (by omega) (by omega)
   ·obtain rfl:i = d.u.length:=by omega
    simp +contextual (disch:=omega) [-getElem?_pos,-List.length_eq_zero_iff,-Int.natCast_eq_zero,wrap64,hnl]
  ·have f1:flw d s M = fun _ => 0:=by funext j;simp [flw,he]
   have f2:pww d s M = fun _ => 0:=by funext j;simp [pww,f1,pow]
   have f3:sta d s M = fun _ => 0:=by funext j;simp [sta,f1,stt]
   rw [f1,f2,f3,ssum_zero]
   simp +contextual (disch:=omega) [-getElem?_pos,-List.length_eq_zero_iff,-Int.natCast_eq_zero,wrap64,v_r22_units,hM,hb,he]
   refine go_loop (fun i:Nat => v_r22_units_s0 (.slice (some 1063) 3 ((nus d s M i).map Us.row)) (sts s.u) s.u.length i i G) (fun i => i ≤ s.u.length) (fun i => s.u.length - i) 0 rfl (by simp [nus]) (by omega) ?_
   intro i hi
   have hnl:=nus_len (d:=d) (s:=s) (m:=M) (n:=i)
   simp +contextual (disch:=omega) [-getElem?_pos,-List.length_eq_zero_iff,-Int.natCast_eq_zero,wrap64,v_r22_units_b0]
   refine cnd_dec (fun h5 => ?_) (fun h5 => ?_)
   ·have h5:i < d.u.length:=by omega
    have h6:i < s.u.length:=by omega
    have hv:validP (nth d.u i) (nth s.u i):=hf.2.2.2.2.1 i h5
    have hsi:=hv.2.1
    have hfl:flw d s M i = 0:=by rw [f1]
    have hx:=nxu_zero hv
    by_cases h7:0 < (nth s.u i).flow
    ·rw [if_pos h7] at hx
     simp +contextual (disch:=omega) [-getElem?_pos,-List.length_eq_zero_iff,-Int.natCast_eq_zero,wrap64,get_nth (l:=s.u),h7,hnl]
     refine rnd_next (i + 1) (by simp [nus_succ,hfl,hx]) (by omega) (by omega)
    ·rw [if_neg h7] at hx
     simp +contextual (disch:=omega) [-getElem?_pos,-List.length_eq_zero_iff,-Int.natCast_eq_zero,wrap64,get_nth (l:=s.u),h7,hnl]
     refine rnd_next (i + 1) (by simp [nus_succ,hfl,hx]) (by omega) (by omega)
   ·obtain rfl:i = s.u.length:=by omega
    rw [hul] at hnl ⊢
    simp +contextual (disch:=omega) [-getElem?_pos,-List.length_eq_zero_iff,-Int.natCast_eq_zero,wrap64,hnl])
end Go.Proofs.YtfjdfnegookkcaaGreat
namespace Go.Proofs.YtfjdfnegookkcaaGreat
set_option linter.all false
open Go.Vm
attribute [local simp] cond_yes cond_yes2 int_beq int_bne
theorem c_r22_Step (d:Dm) (s:Ds) (inf los rel:Int):∃ G',Lim F 26 [dm d,dst s,i64 inf,i64 los,i64 rel] [] = some (stAns d s inf los rel,G'):=by
 suffices h:∀ Q:V → List GObj → Prop,(∀ G',Q (stAns d s inf los rel) G') → Ret (Lim F) 26 [dm d,dst s,i64 inf,i64 los,i64 rel] [] Q by
  obtain ⟨_,G',h,rfl⟩:=h (fun v G' => v = stAns d s inf los rel) fun _ => rfl
  exact ⟨G',h⟩
 intro Q hQ
 refine ret_of rfl rfl ?_
 by_cases hd:dE d s = 0
 ·obtain ⟨hdv,hf⟩:=dE_zero hd
  have hlv:lvl d s = hgt d.r s.v:=by simp [lvl,hd]
  by_cases ho:[inf,los,rel].any out1 = false
  ·have he:stE' d s inf los rel = 0:=by unfold stE';rw [if_neg (fun g => g hd),ho];rfl
   unfold stAns at hQ
   rw [if_pos he] at hQ
   have hx:=ho
   simp only [out1,List.any_cons,List.any_nil,Bool.or_false,Bool.or_eq_false_iff,Bool.not_eq_false',decide_eq_true_eq] at hx
   obtain ⟨x1,x2,x3⟩:=hx
   have i1:(decide (0 ≤ inf) && decide (inf ≤ 1073741824)) = true:=by simp;omega
   have i2:(decide (0 ≤ los) && decide (los ≤ 1073741824)) = true:=by simp;omega
   have i3:(decide (0 ≤ rel) && decide (rel ≤ 1073741824)) = true:=by simp;omega
   have p:=stp_of hdv hf x1 x2 x3
   have hv:=hf.1
   have hC:=dCr_range hdv.r
   have hD:=dDd_range hdv.r
   have hV1:=c_r03_Volume d.r d.r.d []
   rw [sWr_d hdv.r,if_pos rfl,show cval d.r.c d.r.d = dDd d from rfl] at hV1
   have hV2:=c_r03_Volume d.r d.r.t []
   rw [sWr_t hdv.r,if_pos rfl,show cval d.r.c d.r.t = dCr d from rfl] at hV2
   have hL:s.v + inf - min los (s.v + inf) = stL s inf los:=rfl
   have hfr:max 0 (stL s inf los - dDd d) = fre d (stL s inf los):=by unfold fre;omega
   have hLr:0 ≤ stL s inf los ∧ stL s inf los ≤ 4611686018427387904:=by unfold stL;omega
   have hf0:0 ≤ fre d (stL s inf los) ∧ fre d (stL s inf los) ≤ 4611686018427387904:=by unfold fre;omega
   have hU:=c_r22_units hdv hf (q:=min rel (fre d (stL s inf los))) (by omega) []
   rw [show min (min rel (fre d (stL s inf los))) (200 * d.gr) = mst d rel (stL s inf los) from rfl] at hU
   rw [show ssum (flw d s (mst d rel (stL s inf los))) d.u.length = stT d s inf los rel from rfl] at hU
   have hT:=p.T0
   have hTr:=p.Tr
   have hW:min rel (fre d (stL s inf los)) - stT d s inf los rel = wnt d rel (stL s inf los) (stT d s inf los rel):=rfl
   have hS:=c_r20_Set d.g s.g (hgt d.r s.v) (wnt d rel (stL s inf los) (stT d s inf los rel)) []
   have hF:=setF_range d.g s.g (hgt d.r s.v) (wnt d rel (stL s inf los) (stT d s inf los rel))
   have hP:min (setF d.g s.g (hgt d.r s.v) (wnt d rel (stL s inf los) (stT d s inf los rel))) (fre d (stL s inf los) - stT d s inf los rel) = stP d s inf los rel:=rfl
   have hP0:=p.P0
   have hP1:=p.P1
   have hO:max 0 (stL s inf los - (stT d s inf los rel + stP d s inf los rel) - dCr d) = stO d s inf los rel:=by unfold stO;omega
   have hO0:0 ≤ stO d s inf los rel ∧ stO d s inf los rel ≤ 4611686018427387904:=by unfold stO;omega
   have hmn:min 1073741824 (stT d s inf los rel + stP d s inf los rel) = min (stT d s inf los rel + stP d s inf los rel) 1073741824:=Int.min_comm _ _
   unfold stS stR at hQ
   generalize stO d s inf los rel = O at *
   generalize stP d s inf los rel = P at *
   generalize wnt d rel (stL s inf los) (stT d s inf los rel) = W at *
   generalize stT d s inf los rel = T at *
   generalize hLL:stL s inf los = L at *
   simp (config:={ maxSteps:=2000000 }) +contextual (disch:=omega) [-getElem?_pos,-List.length_eq_zero_iff,-Int.natCast_eq_zero,wrap64,v_r22_Step,c_r22_Level,hd,hlv,c_r01_In,i1,i2,i3,hV1,hV2]
   simp (config:={ maxSteps:=2000000 }) +contextual (disch:=omega) [-getElem?_pos,-List.length_eq_zero_iff,-Int.natCast_eq_zero,wrap64,hL,hfr,hU]
   simp (config:={ maxSteps:=2000000 }) +contextual (disch:=omega) [-getElem?_pos,-List.length_eq_zero_iff,-Int.natCast_eq_zero,wrap64,hW,hS,hP,hO,hmn]
   exact hQ _
  ·have ho:[inf,los,rel].any out1 = true:=(Bool.eq_false_or_eq_true _).resolve_right ho
   have he:stE' d s inf los rel = 1:=by unfold stE';rw [if_neg (fun g => g hd),ho];rfl
   unfold stAns at hQ
   rw [he,if_neg (by omega)] at hQ
   simp only [out1,List.any_cons,List.any_nil,Bool.or_false] at ho
   by_cases i1:0 ≤ inf ∧ inf ≤ 1073741824
   ·by_cases i2:0 ≤ los ∧ los ≤ 1073741824
    ·by_cases i3:0 ≤ rel ∧ rel ≤ 1073741824
     ·simp [i1,i2,i3] at ho
     ·have j1:(decide (0 ≤ inf) && decide (inf ≤ 1073741824)) = true:=by simp;omega
      have j2:(decide (0 ≤ los) && decide (los ≤ 1073741824)) = true:=by simp;omega
      have j3:(decide (0 ≤ rel) && decide (rel ≤ 1073741824)) = false:=by simp;omega
      simp (config:={ maxSteps:=2000000 }) +contextual (disch:=omega) [-getElem?_pos,-List.length_eq_zero_iff,-Int.natCast_eq_zero,wrap64,v_r22_Step,c_r22_Level,hd,hlv,c_r01_In,j1,j2,j3]
      exact hQ _
    ·have j1:(decide (0 ≤ inf) && decide (inf ≤ 1073741824)) = true:=by simp;omega
     have j2:(decide (0 ≤ los) && decide (los ≤ 1073741824)) = false:=by simp;omega
     simp (config:={ maxSteps:=2000000 }) +contextual (disch:=omega) [-getElem?_pos,-List.length_eq_zero_iff,-Int.natCast_eq_zero,wrap64,v_r22_Step,c_r22_Level,hd,hlv,c_r01_In,j1,j2]
     exact hQ _
   ·have j1:(decide (0 ≤ inf) && decide (inf ≤ 1073741824)) = false:=by simp;omega
    simp (config:={ maxSteps:=2000000 }) +contextual (disch:=omega) [-getElem?_pos,-List.length_eq_zero_iff,-Int.natCast_eq_zero,wrap64,v_r22_Step,c_r22_Level,hd,hlv,c_r01_In,j1]
    exact hQ _
 ·have he:stE' d s inf los rel = dE d s:=by unfold stE';rw [if_pos hd]
  unfold stAns at hQ
  rw [he,if_neg hd] at hQ
  simp +contextual (disch:=omega) [-getElem?_pos,-List.length_eq_zero_iff,-Int.natCast_eq_zero,wrap64,v_r22_Step,c_r22_Level,hd]
  exact hQ _
end Go.Proofs.YtfjdfnegookkcaaGreat
namespace Go.Proofs.YtfjdfnegookkcaaGreat
set_option linter.all false
open Go.Vm
attribute [local simp] cond_yes cond_yes2 int_beq int_bne
theorem c_light22 (d:Dm) (s:Ds) (G:List GObj):∃ b,Lim F 19 [dm d,dst s] G = some (.bool b,G):=by
 suffices h:∀ Q:V → Prop,(∀ b,Q (.bool b)) → Ret (Lim F) 19 [dm d,dst s] G fun v G' => Q v ∧ G' = G by
  obtain ⟨_,_,h,⟨b,rfl⟩,rfl⟩:=h (fun v => ∃ b,v = .bool b) fun b => ⟨b,rfl⟩
  exact ⟨b,h⟩
 intro Q hQ
 refine ret_of rfl rfl ?_
 by_cases hc:dChk d = 0
 ·by_cases hf:dfit d s
  ·have hV:=c_r22_Valid d s []
   rw [decide_eq_true ⟨hc,hf⟩] at hV
   have hu:=(dv_of hc).u
   obtain ⟨n,hn⟩:=c_r19_Count (g:=d.gr) (us:=d.u) (ss:=s.u) hf.2.2.1.symm (by omega) hf.2.2.2.2.1 []
   simp +contextual (disch:=omega) [-getElem?_pos,-List.length_eq_zero_iff,-Int.natCast_eq_zero,wrap64,v_w22_light,c_r22_Check,hc,hV,hn]
   exact hQ _
  ·have hV:=c_r22_Valid d s []
   rw [decide_eq_false (fun h => hf h.2)] at hV
   simp +contextual (disch:=omega) [-getElem?_pos,-List.length_eq_zero_iff,-Int.natCast_eq_zero,wrap64,v_w22_light,c_r22_Check,hc,hV]
   exact hQ _
 ·simp +contextual (disch:=omega) [-getElem?_pos,-List.length_eq_zero_iff,-Int.natCast_eq_zero,wrap64,v_w22_light,c_r22_Check,hc]
  exact hQ _
abbrev dstT (tu tg:Option Nat) (s:Ds):V:=.agg [i64 s.v,i64 s.rel,.slice tu 3 (s.u.map Us.row),.slice tg 2 (s.g.map Gs.row)]
theorem c_odd {l:List Int} {k:Nat} (hd:okd l k) {d:Dm} (hr:sChk d.r = 0) (s:Ds) (hu:s.u.length ≤ 100000) (hg:s.g.length ≤ 100000) :
  ∃ s' k' tu tg,Lim F 18 [.gptr 0 0,dm d,dst s] [dk l k] = some (dstT tu tg s',[dk l k']) ∧ okd l k' ∧ s'.u.length ≤ s.u.length + 1 ∧ s'.g.length ≤ s.g.length + 1:=by
 suffices h:∀ Q:V → List GObj → Prop,(∀ s' k' tu tg,okd l k' → s'.u.length ≤ s.u.length + 1 → s'.g.length ≤ s.g.length + 1 → Q (dstT tu tg s') [dk l k']) → Ret (Lim F) 18 [.gptr 0 0,dm d,dst s] [dk l k] Q by
  obtain ⟨_,_,h,s',k',tu,tg,rfl,rfl,h1⟩:=h (fun v G => ∃ s' k' tu tg,v = dstT tu tg s' ∧ G = [dk l k'] ∧ okd l k' ∧ s'.u.length ≤ s.u.length + 1 ∧ s'.g.length ≤ s.g.length + 1) fun s' k' tu tg a b c => ⟨s',k',tu,tg,rfl,rfl,a,b,c⟩
  exact ⟨s',k',tu,tg,h,h1⟩
 intro Q hQ
 refine ret_of rfl rfl ?_
 have hV:=c_r03_Volume d.r d.r.t []
 rw [sWr_t hr,if_pos rfl] at hV
 have hvr:=vol_range hr d.r.t
 obtain ⟨a,k1,n1,hd1,ha⟩:=c_Next hd 5 (by omega)
 obtain ⟨b,k2,n2,hd2,hb⟩:=c_Next hd1 4 (by omega)
 obtain ⟨c,k3,n3,hd3,hc⟩:=c_Next hd1 3 (by omega)
 have:a = 0 ∨ a = 1 ∨ a = 2 ∨ a = 3 ∨ a = 4:=by omega
 rcases this with rfl | rfl | rfl | rfl | rfl
 ·have:b = 0 ∨ b = 1 ∨ b = 2 ∨ b = 3:=by omega
  rcases this with rfl | rfl | rfl | rfl
  ·simp +contextual (disch:=omega) [-getElem?_pos,-List.length_eq_zero_iff,-Int.natCast_eq_zero,wrap64,v_w22_odd,hV,n1,n2]
   exact hQ ⟨-1,s.rel,s.u,s.g⟩ k2 none none hd2 (by simp) (by simp)
  ·simp +contextual (disch:=omega) [-getElem?_pos,-List.length_eq_zero_iff,-Int.natCast_eq_zero,wrap64,v_w22_odd,hV,n1,n2]
   exact hQ ⟨0,s.rel,s.u,s.g⟩ k2 none none hd2 (by simp) (by simp)
  ·simp +contextual (disch:=omega) [-getElem?_pos,-List.length_eq_zero_iff,-Int.natCast_eq_zero,wrap64,v_w22_odd,hV,n1,n2]
   exact hQ ⟨_,s.rel,s.u,s.g⟩ k2 none none hd2 (by simp) (by simp)
  ·simp +contextual (disch:=omega) [-getElem?_pos,-List.length_eq_zero_iff,-Int.natCast_eq_zero,wrap64,v_w22_odd,hV,n1,n2]
   exact hQ ⟨_,s.rel,s.u,s.g⟩ k2 none none hd2 (by simp) (by simp)
 ·have:c = 0 ∨ c = 1 ∨ c = 2:=by omega
  rcases this with rfl | rfl | rfl
  ·simp +contextual (disch:=omega) [-getElem?_pos,-List.length_eq_zero_iff,-Int.natCast_eq_zero,wrap64,v_w22_odd,hV,n1,n3]
   exact hQ ⟨s.v,-1,s.u,s.g⟩ k3 none none hd3 (by simp) (by simp)
  ·simp +contextual (disch:=omega) [-getElem?_pos,-List.length_eq_zero_iff,-Int.natCast_eq_zero,wrap64,v_w22_odd,hV,n1,n3]
   exact hQ ⟨s.v,1073741824,s.u,s.g⟩ k3 none none hd3 (by simp) (by simp)
  ·simp +contextual (disch:=omega) [-getElem?_pos,-List.length_eq_zero_iff,-Int.natCast_eq_zero,wrap64,v_w22_odd,hV,n1,n3]
   exact hQ ⟨s.v,1073741825,s.u,s.g⟩ k3 none none hd3 (by simp) (by simp)
 ·simp +contextual (disch:=omega) [-getElem?_pos,-List.length_eq_zero_iff,-Int.natCast_eq_zero,wrap64,v_w22_odd,hV,n1]
  have:=hQ ⟨s.v,s.rel,s.u ++ [⟨0,0,false⟩],s.g⟩ k1 (some 0) none hd1 (by simp) (by simp)
  simp only [dstT,List.map_append,List.map_cons,List.map_nil] at this
  exact this
 ·simp +contextual (disch:=omega) [-getElem?_pos,-List.length_eq_zero_iff,-Int.natCast_eq_zero,wrap64,v_w22_odd,hV,n1]
  have:=hQ ⟨s.v,s.rel,s.u,s.g ++ [⟨0,false⟩]⟩ k1 none (some 0) hd1 (by simp) (by simp)
  simp only [dstT,List.map_append,List.map_cons,List.map_nil] at this
  exact this
 ·simp +contextual (disch:=omega) [-getElem?_pos,-List.length_eq_zero_iff,-Int.natCast_eq_zero,wrap64,v_w22_odd,hV,n1]
  exact hQ s k1 none none hd1 (by simp) (by simp)
theorem stAns_form (d:Dm) (s:Ds) (inf los rel:Int):∃ X R e t,stAns d s inf los rel = .tuple [dstT t t X,dr R,i64 e] ∧ X.u.length ≤ 6 ∧ X.g.length ≤ 1000:=by
 unfold stAns
 by_cases h:stE' d s inf los rel = 0
 ·rw [if_pos h]
  have hd:dE d s = 0:=by
   unfold stE' at h
   split at h
   ·rename_i h1;exact absurd h h1
   ·rename_i h1;exact Decidable.of_not_not h1
  obtain ⟨hdv,hf⟩:=dE_zero hd
  refine ⟨stS d s inf los rel,stR d s inf los rel,0,none,rfl,?_,?_⟩
  ·show (nus d s _ d.u.length).length ≤ 6
   rw [nus_len];exact hdv.u
  ·show (setS d.g s.g _ _).length ≤ 1000
   unfold setS outS
   split
   ·have:=hdv.g
    have:=hf.2.2.2.1
    simp;omega
   ·simp
 ·rw [if_neg h]
  exact ⟨⟨0,0,[],[]⟩,⟨0,0,0,0,0,0,0⟩,_,some 0,rfl,by simp,by simp⟩
end Go.Proofs.YtfjdfnegookkcaaGreat
namespace Go.Proofs.YtfjdfnegookkcaaGreat
set_option linter.all false
open Go.Vm
attribute [local simp] cond_yes cond_yes2 int_beq int_bne
instance:Inhabited Dm:=⟨⟨⟨[],0,0,0,0,0⟩,[],[],0⟩⟩
structure T3 where
 a:Int
 b:Int
 c:Int
 deriving Inhabited
abbrev T3.row (t:T3):List V:=[i64 t.a,i64 t.b,i64 t.c]
set_option maxRecDepth 100000 in
set_option maxHeartbeats 4000000 in
theorem dsteps_walk {l:List Int} (hl:l.length ≤ 9223372036854775807) (raw:Dm) (rs:Ds) (inf los rel:Int):∃ G',Lim F 4 [dm raw,dst rs,ints l,i64 inf,i64 los,i64 rel] [] = some (.bool true,G'):=by
 suffices h:Ret (Lim F) 4 [dm raw,dst rs,ints l,i64 inf,i64 los,i64 rel] [] fun v G => v = .bool true by
  obtain ⟨_,G,h,rfl⟩:=h
  exact ⟨G,h⟩
 refine ret_of rfl rfl ?_
 by_cases hbig:8 < raw.u.length ∨ 10 < raw.g.length ∨ 10 < rs.u.length ∨ 12 < rs.g.length
 ·by_cases b1:(8:Int) < raw.u.length
  ·simp (config:={ maxSteps:=2000000 }) +contextual (disch:=omega) [-getElem?_pos,-List.length_eq_zero_iff,-Int.natCast_eq_zero,wrap64,v_w22_DamSteps,b1,c_awake22]
  ·by_cases b2:(10:Int) < raw.g.length
   ·simp (config:={ maxSteps:=2000000 }) +contextual (disch:=omega) [-getElem?_pos,-List.length_eq_zero_iff,-Int.natCast_eq_zero,wrap64,v_w22_DamSteps,b1,b2,c_awake22]
   ·by_cases b3:(10:Int) < rs.u.length
    ·simp (config:={ maxSteps:=2000000 }) +contextual (disch:=omega) [-getElem?_pos,-List.length_eq_zero_iff,-Int.natCast_eq_zero,wrap64,v_w22_DamSteps,b1,b2,b3,c_awake22]
    ·have b4:(12:Int) < rs.g.length:=by omega
     simp (config:={ maxSteps:=2000000 }) +contextual (disch:=omega) [-getElem?_pos,-List.length_eq_zero_iff,-Int.natCast_eq_zero,wrap64,v_w22_DamSteps,b1,b2,b3,b4,c_awake22]
 ·have b1:¬ (8:Int) < raw.u.length:=by omega
  have b2:¬ (10:Int) < raw.g.length:=by omega
  have b3:¬ (10:Int) < rs.u.length:=by omega
  have b4:¬ (12:Int) < rs.g.length:=by omega
  obtain ⟨d,s,k1,n1,hd1,hw⟩:=c_mk_Dam (l:=l) (k:=0) ⟨by omega,hl⟩
  have hr:=(dv_of hw.chk).r
  have hsu:s.u.length ≤ 2:=by have:=hw.fit.2.2.1;have:=hw.u2;omega
  have hsg:s.g.length ≤ 2:=by have:=hw.fit.2.2.2.1;have:=hw.g2;omega
  have m1:=c_Mod (n:=inf) (m:=400) (by omega) []
  have m2:=c_Mod (n:=los) (m:=300) (by omega) []
  have m3:=c_Mod (n:=rel) (m:=100) (by omega) []
  generalize modV inf 400 = q1 at m1
  generalize modV los 300 = q2 at m2
  generalize modV rel 100 = q3 at m3
  simp (config:={ maxSteps:=2000000 }) +contextual (disch:=omega) [-getElem?_pos,-List.length_eq_zero_iff,-Int.natCast_eq_zero,wrap64,v_w22_DamSteps,b1,b2,b3,b4,c_New,n1]
  refine go_loop (fun x:Nat × Nat => v_w22_DamSteps_s2 inf los rel (.gptr 0 0) (.slice none 9 ([d,raw].map Dm.row)) 2 x.1 rs.row d.row s.row [dk l x.2]) (fun x => x.1 ≤ 2 ∧ okd l x.2) (fun x => 2 - x.1) (0,k1) rfl (by simp) ⟨by simp,hd1⟩ ?_
  rintro ⟨i,k⟩ ⟨hi,hd⟩
  simp only at hi hd
  obtain ⟨s',k2,tu,tg,n2,hd2,hu2,hg2⟩:=c_odd hd hr s (by omega) (by omega)
  generalize hxs:[d,raw] = xs
  have hxl:xs.length = 2:=by rw [← hxs];rfl
  simp (config:={ maxSteps:=2000000 }) +contextual (disch:=omega) [-getElem?_pos,-List.length_eq_zero_iff,-Int.natCast_eq_zero,wrap64,v_w22_DamSteps_b2]
  refine cnd_dec (fun h1 => ?_) (fun h1 => ?_)
  ·have h1:i < xs.length:=by omega
   have hC1:=c_dam_Check (nth xs i) []
   have hC2:=c_r22_Check (nth xs i) []
   simp (config:={ maxSteps:=2000000 }) +contextual (disch:=omega) [-getElem?_pos,-List.length_eq_zero_iff,-Int.natCast_eq_zero,wrap64,get_nth (l:=xs),hC1,hC2,n2]
   generalize nth xs i = X at *
   refine go_loop (fun x:Nat × Nat => v_w22_DamSteps_s1 inf los rel (.gptr 0 0) (.slice none 9 (xs.map Dm.row)) 2 i (.slice none 4 ([s,rs,s'].map Ds.row)) 3 x.1 rs.row d.row s.row X.row [dk l x.2]) (fun x => x.1 ≤ 3 ∧ okd l x.2) (fun x => 3 - x.1) (0,k2) rfl (by simp) ⟨by simp,hd2⟩ ?_
   rintro ⟨j,k⟩ ⟨hj,hd⟩
   simp only at hj hd
   generalize hys:[s,rs,s'] = ys
   have hyl:ys.length = 3:=by rw [← hys];rfl
   simp (config:={ maxSteps:=2000000 }) +contextual (disch:=omega) [-getElem?_pos,-List.length_eq_zero_iff,-Int.natCast_eq_zero,wrap64,v_w22_DamSteps_b1]
   refine cnd_dec (fun h2 => ?_) (fun h2 => ?_)
   ·have h2:j < ys.length:=by omega
    obtain ⟨bl,hbl⟩:=c_light22 X (nth ys j) []
    have e1:=c_dam_Level X (nth ys j) []
    have e2:=c_r22_Level X (nth ys j) []
    have e3:=c_dam_Can X (nth ys j) []
    have e4:=c_r22_Can X (nth ys j) []
    have e5:=c_dam_Valid X (nth ys j) []
    have e6:=c_r22_Valid X (nth ys j) []
    obtain ⟨p1,k3,n3,hd3,_⟩:=c_Next hd 60 (by omega)
    obtain ⟨p2,k4,n4,hd4,_⟩:=c_Next hd3 20 (by omega)
    obtain ⟨p3,k5,n5,hd5,_⟩:=c_Next hd4 60 (by omega)
    cases bl with
    | false =>
      simp (config:={ maxSteps:=2000000 }) +contextual (disch:=omega) [-getElem?_pos,-List.length_eq_zero_iff,-Int.natCast_eq_zero,wrap64,get_nth (l:=ys),hbl]
      refine rnd_next (j + 1,k) (by simp) ⟨by simp only;omega,hd⟩ (by simp only;omega)
    | true =>
      simp (config:={ maxSteps:=2000000 }) +contextual (disch:=omega) [-getElem?_pos,-List.length_eq_zero_iff,-Int.natCast_eq_zero,wrap64,get_nth (l:=ys),hbl,e1,e2,e3,e4,e5,e6,V.aeq,eqCells,eqCell,n3,n4,n5,m1,m2,m3]
      refine go_loop (fun n:Nat => v_w22_DamSteps_s0 inf los rel (.gptr 0 0) (.slice none 9 (xs.map Dm.row)) 2 i (.slice none 4 (ys.map Ds.row)) 3 j (.slice none 3 ([⟨inf,los,rel⟩,⟨p1,p2,p3⟩,⟨q1,q2,q3⟩].map T3.row)) 3 n rs.row d.row s.row X.row (nth ys j).row [dk l k5]) (fun n => n ≤ 3) (fun n => 3 - n) 0 rfl (by simp) (by omega) ?_
      intro n hn
      generalize hps:[(⟨inf,los,rel⟩:T3),⟨p1,p2,p3⟩,⟨q1,q2,q3⟩] = ps
      have hpl:ps.length = 3:=by rw [← hps];rfl
      simp (config:={ maxSteps:=2000000 }) +contextual (disch:=omega) [-getElem?_pos,-List.length_eq_zero_iff,-Int.natCast_eq_zero,wrap64,v_w22_DamSteps_b0]
      refine cnd_dec (fun h3 => ?_) (fun h3 => ?_)
      ·have h3:n < ps.length:=by omega
       obtain ⟨G1,s1⟩:=c_dam_Step X (nth ys j) (nth ps n).a (nth ps n).b (nth ps n).c
       obtain ⟨G2,s2⟩:=c_r22_Step X (nth ys j) (nth ps n).a (nth ps n).b (nth ps n).c
       obtain ⟨Z,R,e,t,hZ,z1,z2⟩:=stAns_form X (nth ys j) (nth ps n).a (nth ps n).b (nth ps n).c
       rw [hZ] at s1 s2
       have hSm:=c_r22_Same_refl Z (by omega) (by omega) []
       simp (config:={ maxSteps:=2000000 }) +contextual (disch:=omega) [-getElem?_pos,-List.length_eq_zero_iff,-Int.natCast_eq_zero,wrap64,get_nth (l:=ps),s1]
       simp (config:={ maxSteps:=2000000 }) +contextual (disch:=omega) [-getElem?_pos,-List.length_eq_zero_iff,-Int.natCast_eq_zero,wrap64,s2]
       simp (config:={ maxSteps:=2000000 }) +contextual (disch:=omega) [-getElem?_pos,-List.length_eq_zero_iff,-Int.natCast_eq_zero,wrap64,V.aeq,eqCells,eqCell,hSm]
       refine rnd_next (n + 1) (by simp) (by omega) (by omega)
      ·refine rnd_next (j + 1,k5) (by simp) ⟨by simp only;omega,hd5⟩ (by simp only;omega)
   ·refine rnd_next (i + 1,k) (by simp) ⟨by simp only;omega,hd⟩ (by simp only;omega)
  ·simp (config:={ maxSteps:=2000000 }) +contextual (disch:=omega) [-getElem?_pos,-List.length_eq_zero_iff,-Int.natCast_eq_zero,wrap64,c_awake22]
end Go.Proofs.YtfjdfnegookkcaaGreat
namespace Go.Proofs.YtfjdfnegookkcaaGreat
set_option linter.all false
open Go.Vm
open Go.ChangeShapes Go.WideShapes Go.ChangeAt Go.RowKit
theorem pt_row {H:Type} {d:Nat} {vs:List V} {x:DataW H} (h:TyV Tryz.prog d 103 vs x):∃ p:Pt,vs = p.row ∧ True:=by
 have hl:=tyv_len (n:=2) (by kernel_rfl) h
 obtain ⟨a0,h0,_⟩:=tyv_fint (i:=0) (off:=0) (ty:=3) (k:=.i64) (by kernel_rfl) (by kernel_rfl) h
 obtain ⟨a1,h1,_⟩:=tyv_fint (i:=1) (off:=1) (ty:=3) (k:=.i64) (by kernel_rfl) (by kernel_rfl) h
 match vs,hl with
 | [b0,b1],_ =>
   simp at h0 h1
   subst h0;subst h1
   exact ⟨⟨a0,a1⟩,rfl,trivial⟩
theorem bd_row {H:Type} {d:Nat} {vs:List V} {x:DataW H} (h:TyV Tryz.prog d 57 vs x):∃ p:Bd,vs = p.row ∧ True:=by
 have hl:=tyv_len (n:=2) (by kernel_rfl) h
 obtain ⟨a0,h0,_⟩:=tyv_fint (i:=0) (off:=0) (ty:=3) (k:=.i64) (by kernel_rfl) (by kernel_rfl) h
 obtain ⟨a1,h1,_⟩:=tyv_fint (i:=1) (off:=1) (ty:=3) (k:=.i64) (by kernel_rfl) (by kernel_rfl) h
 match vs,hl with
 | [b0,b1],_ =>
   simp at h0 h1
   subst h0;subst h1
   exact ⟨⟨a0,a1⟩,rfl,trivial⟩
theorem un_row {H:Type} {d:Nat} {vs:List V} {x:DataW H} (h:TyV Tryz.prog d 92 vs x):∃ u:Un,vs = u.row ∧ True:=by
 have hl:=tyv_len (n:=6) (by kernel_rfl) h
 obtain ⟨_,_,g0⟩:=tyv_field (i:=0) (off:=0) (n:=1) (ty:=25) (by kernel_rfl) h
 obtain ⟨a1,h1,_⟩:=tyv_fint (i:=1) (off:=1) (ty:=3) (k:=.i64) (by kernel_rfl) (by kernel_rfl) h
 obtain ⟨a2,h2,_⟩:=tyv_fint (i:=2) (off:=2) (ty:=3) (k:=.i64) (by kernel_rfl) (by kernel_rfl) h
 obtain ⟨_,_,g3⟩:=tyv_field (i:=3) (off:=3) (n:=1) (ty:=90) (by kernel_rfl) h
 obtain ⟨a4,h4,_⟩:=tyv_fint (i:=4) (off:=4) (ty:=3) (k:=.i64) (by kernel_rfl) (by kernel_rfl) h
 obtain ⟨a5,h5,_⟩:=tyv_fint (i:=5) (off:=5) (ty:=3) (k:=.i64) (by kernel_rfl) (by kernel_rfl) h
 obtain ⟨t,h0,_⟩:=tyv_slice (e:=103) Pt.row (fun _ => True) (by kernel_rfl) (fun d vs x h => pt_row h) g0
 obtain ⟨z,h3,_⟩:=tyv_slice (e:=57) Bd.row (fun _ => True) (by kernel_rfl) (fun d vs x h => bd_row h) g3
 have c0:Tryz.prog.cellsOf 103 = 2:=by kernel_rfl
 have c3:Tryz.prog.cellsOf 57 = 2:=by kernel_rfl
 rw [c0] at h0
 rw [c3] at h3
 match vs,hl with
 | [b0,b1,b2,b3,b4,b5],_ =>
   simp at h0 h1 h2 h3 h4 h5
   subst h0;subst h1;subst h2;subst h3;subst h4;subst h5
   exact ⟨⟨t,a1,a2,z,a4,a5⟩,rfl,trivial⟩
theorem us_row {H:Type} {d:Nat} {vs:List V} {x:DataW H} (h:TyV Tryz.prog d 95 vs x):∃ s:Us,vs = s.row ∧ True:=by
 have hl:=tyv_len (n:=3) (by kernel_rfl) h
 obtain ⟨a0,h0,_⟩:=tyv_fint (i:=0) (off:=0) (ty:=3) (k:=.i64) (by kernel_rfl) (by kernel_rfl) h
 obtain ⟨a1,h1,_⟩:=tyv_fint (i:=1) (off:=1) (ty:=3) (k:=.i64) (by kernel_rfl) (by kernel_rfl) h
 obtain ⟨_,_,g2⟩:=tyv_field (i:=2) (off:=2) (n:=1) (ty:=4) (by kernel_rfl) h
 obtain ⟨a2,h2⟩:=tyv_bool (by kernel_rfl) g2
 match vs,hl with
 | [b0,b1,b2],_ =>
   simp at h0 h1 h2
   subst h0;subst h1;subst h2
   exact ⟨⟨a0,a1,a2⟩,rfl,trivial⟩
theorem gs_row {H:Type} {d:Nat} {vs:List V} {x:DataW H} (h:TyV Tryz.prog d 101 vs x):∃ s:Gs,vs = s.row ∧ True:=by
 have hl:=tyv_len (n:=2) (by kernel_rfl) h
 obtain ⟨a0,h0,_⟩:=tyv_fint (i:=0) (off:=0) (ty:=3) (k:=.i64) (by kernel_rfl) (by kernel_rfl) h
 obtain ⟨_,_,g2⟩:=tyv_field (i:=1) (off:=1) (n:=1) (ty:=4) (by kernel_rfl) h
 obtain ⟨a2,h2⟩:=tyv_bool (by kernel_rfl) g2
 match vs,hl with
 | [b0,b1],_ =>
   simp at h0 h2
   subst h0;subst h2
   exact ⟨⟨a0,a2⟩,rfl,trivial⟩
theorem rt_row {H:Type} {d:Nat} {vs:List V} {x:DataW H} (h:TyV Tryz.prog d 129 vs x):∃ u:Rt,vs = u.row ∧ True:=by
 have hl:=tyv_len (n:=2) (by kernel_rfl) h
 obtain ⟨a0,h0,_⟩:=tyv_fint (i:=0) (off:=0) (ty:=3) (k:=.i64) (by kernel_rfl) (by kernel_rfl) h
 obtain ⟨_,_,g1⟩:=tyv_field (i:=1) (off:=1) (n:=1) (ty:=25) (by kernel_rfl) h
 obtain ⟨t,h1,_⟩:=tyv_slice (e:=103) Pt.row (fun _ => True) (by kernel_rfl) (fun d vs x h => pt_row h) g1
 have c0:Tryz.prog.cellsOf 103 = 2:=by kernel_rfl
 rw [c0] at h1
 match vs,hl with
 | [b0,b1],_ =>
   simp at h0 h1
   subst h0;subst h1
   exact ⟨⟨a0,t⟩,rfl,trivial⟩
theorem gt_row {H:Type} {d:Nat} {vs:List V} {x:DataW H} (h:TyV Tryz.prog d 98 vs x):∃ u:Gt,vs = u.row ∧ True:=by
 have hl:=tyv_len (n:=3) (by kernel_rfl) h
 obtain ⟨_,_,g0⟩:=tyv_field (i:=0) (off:=0) (n:=1) (ty:=96) (by kernel_rfl) h
 obtain ⟨a1,h1,_⟩:=tyv_fint (i:=1) (off:=1) (ty:=3) (k:=.i64) (by kernel_rfl) (by kernel_rfl) h
 obtain ⟨a2,h2,_⟩:=tyv_fint (i:=2) (off:=2) (ty:=3) (k:=.i64) (by kernel_rfl) (by kernel_rfl) h
 obtain ⟨t,h0,_⟩:=tyv_slice (e:=129) Rt.row (fun _ => True) (by kernel_rfl) (fun d vs x h => rt_row h) g0
 have c0:Tryz.prog.cellsOf 129 = 2:=by kernel_rfl
 rw [c0] at h0
 match vs,hl with
 | [b0,b1,b2],_ =>
   simp at h0 h1 h2
   subst h0;subst h1;subst h2
   exact ⟨⟨t,a1,a2⟩,rfl,trivial⟩
theorem rs_row {H:Type} {d:Nat} {vs:List V} {x:DataW H} (h:TyV Tryz.prog d 27 vs x):∃ u:Rs,vs = u.cells ∧ True:=by
 have hl:=tyv_len (n:=6) (by kernel_rfl) h
 obtain ⟨_,_,g0⟩:=tyv_field (i:=0) (off:=0) (n:=1) (ty:=25) (by kernel_rfl) h
 obtain ⟨a1,h1,_⟩:=tyv_fint (i:=1) (off:=1) (ty:=3) (k:=.i64) (by kernel_rfl) (by kernel_rfl) h
 obtain ⟨a2,h2,_⟩:=tyv_fint (i:=2) (off:=2) (ty:=3) (k:=.i64) (by kernel_rfl) (by kernel_rfl) h
 obtain ⟨a3,h3,_⟩:=tyv_fint (i:=3) (off:=3) (ty:=3) (k:=.i64) (by kernel_rfl) (by kernel_rfl) h
 obtain ⟨a4,h4,_⟩:=tyv_fint (i:=4) (off:=4) (ty:=3) (k:=.i64) (by kernel_rfl) (by kernel_rfl) h
 obtain ⟨a5,h5,_⟩:=tyv_fint (i:=5) (off:=5) (ty:=3) (k:=.i64) (by kernel_rfl) (by kernel_rfl) h
 obtain ⟨t,h0,_⟩:=tyv_slice (e:=103) Pt.row (fun _ => True) (by kernel_rfl) (fun d vs x h => pt_row h) g0
 have c0:Tryz.prog.cellsOf 103 = 2:=by kernel_rfl
 rw [c0] at h0
 match vs,hl with
 | [b0,b1,b2,b3,b4,b5],_ =>
   simp at h0 h1 h2 h3 h4 h5
   subst h0;subst h1;subst h2;subst h3;subst h4;subst h5
   exact ⟨⟨t,a1,a2,a3,a4,a5⟩,rfl,trivial⟩
theorem dm_row {H:Type} {d:Nat} {vs:List V} {x:DataW H} (h:TyV Tryz.prog d 31 vs x):∃ u:Dm,vs = u.row ∧ True:=by
 have hl:=tyv_len (n:=9) (by kernel_rfl) h
 obtain ⟨_,_,g0⟩:=tyv_field (i:=0) (off:=0) (n:=6) (ty:=27) (by kernel_rfl) h
 obtain ⟨_,_,g1⟩:=tyv_field (i:=1) (off:=6) (n:=1) (ty:=28) (by kernel_rfl) h
 obtain ⟨_,_,g2⟩:=tyv_field (i:=2) (off:=7) (n:=1) (ty:=29) (by kernel_rfl) h
 obtain ⟨a3,h3,_⟩:=tyv_fint (i:=3) (off:=8) (ty:=3) (k:=.i64) (by kernel_rfl) (by kernel_rfl) h
 obtain ⟨r,h0,_⟩:=rs_row g0
 obtain ⟨u,h1,_⟩:=tyv_slice (e:=92) Un.row (fun _ => True) (by kernel_rfl) (fun d vs x h => un_row h) g1
 obtain ⟨g,h2,_⟩:=tyv_slice (e:=98) Gt.row (fun _ => True) (by kernel_rfl) (fun d vs x h => gt_row h) g2
 have c1:Tryz.prog.cellsOf 92 = 6:=by kernel_rfl
 have c2:Tryz.prog.cellsOf 98 = 3:=by kernel_rfl
 rw [c1] at h1
 rw [c2] at h2
 match vs,hl with
 | [b0,b1,b2,b3,b4,b5,b6,b7,b8],_ =>
   simp at h0 h1 h2 h3
   obtain ⟨rfl,rfl,rfl,rfl,rfl,rfl⟩:=h0
   subst h1;subst h2;subst h3
   exact ⟨⟨r,u,g,a3⟩,rfl,trivial⟩
theorem ds_row {H:Type} {d:Nat} {vs:List V} {x:DataW H} (h:TyV Tryz.prog d 35 vs x):∃ u:Ds,vs = u.row ∧ True:=by
 have hl:=tyv_len (n:=4) (by kernel_rfl) h
 obtain ⟨a0,h0,_⟩:=tyv_fint (i:=0) (off:=0) (ty:=3) (k:=.i64) (by kernel_rfl) (by kernel_rfl) h
 obtain ⟨a1,h1,_⟩:=tyv_fint (i:=1) (off:=1) (ty:=3) (k:=.i64) (by kernel_rfl) (by kernel_rfl) h
 obtain ⟨_,_,g2⟩:=tyv_field (i:=2) (off:=2) (n:=1) (ty:=32) (by kernel_rfl) h
 obtain ⟨_,_,g3⟩:=tyv_field (i:=3) (off:=3) (n:=1) (ty:=33) (by kernel_rfl) h
 obtain ⟨u,h2,_⟩:=tyv_slice (e:=95) Us.row (fun _ => True) (by kernel_rfl) (fun d vs x h => us_row h) g2
 obtain ⟨g,h3,_⟩:=tyv_slice (e:=101) Gs.row (fun _ => True) (by kernel_rfl) (fun d vs x h => gs_row h) g3
 have c2:Tryz.prog.cellsOf 95 = 3:=by kernel_rfl
 have c3:Tryz.prog.cellsOf 101 = 2:=by kernel_rfl
 rw [c2] at h2
 rw [c3] at h3
 match vs,hl with
 | [b0,b1,b2,b3],_ =>
   simp at h0 h1 h2 h3
   subst h0;subst h1;subst h2;subst h3
   exact ⟨⟨a0,a1,u,g⟩,rfl,trivial⟩
end Go.Proofs.YtfjdfnegookkcaaGreat
