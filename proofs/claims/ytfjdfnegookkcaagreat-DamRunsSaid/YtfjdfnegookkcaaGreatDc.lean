/- Parts of the proof, joined: Sto1, Sto2, Sto3, Ord1, Ref1, Ref2, Ref3, Rng1. -/
import Derived.Test.YtfjdfnegookkcaaGreatDa
import Derived.Test.YtfjdfnegookkcaaGreatDb
namespace Go.Proofs.YtfjdfnegookkcaaGreat
set_option linter.all false
open Go.Vm
attribute [local simp] cond_yes cond_yes2 int_beq int_bne
structure Rs where
 c:List Pt
 d:Int
 l:Int
 f:Int
 s:Int
 t:Int
abbrev Rs.cells (r:Rs):List V:=[pts r.c,i64 r.d,i64 r.l,i64 r.f,i64 r.s,i64 r.t]
def sStep (c:List Pt) (i:Nat):Int:=if (nth c i).y ≤ (nth c (i - 1)).y then 4 else 0
def sLv (r:Rs):List Int:=[(nth r.c 0).x,r.d,r.l,r.f,r.s,r.t,(nth r.c (r.c.length - 1)).x]
def lStep (l:List Int) (i:Nat):Int:=if nth l i < nth l (i - 1) then 4 else 0
def sChk (r:Rs):Int :=
 if cChk r.c ≠ 0 then cChk r.c else if r.c.length < 2 then 3 else if 16777216 < (nth r.c (r.c.length - 1)).x then 1
 else if fsE (sStep r.c) (r.c.length - 1) 1 = 0 then fsE (lStep (sLv r)) (7 - 1) 1 else 4
theorem cChk_len {c:List Pt} (h:cChk c = 0):c.length ≤ 100:=by
 unfold cChk at h
 split at h
 ·cases h
 ·split at h
  ·cases h
  ·omega
theorem c_storage_Check (r:Rs) (G:List GObj):Lim F 46 [.agg r.cells] G = some (i64 (sChk r),G) :=
 eq_of rfl rfl (by
  generalize hW:sChk r = W
  unfold sChk at hW
  simp +contextual (disch:=omega) [-getElem?_pos,-List.length_eq_zero_iff,-Int.natCast_eq_zero,wrap64,v_storage_Check,c_curve_Check]
  refine cnd_bool (fun h => ?_) (fun h => ?_)
  ·simp [-List.length_eq_zero_iff,-Int.natCast_eq_zero] at h
   rw [if_pos (by omega)] at hW
   exact hW
  ·simp [-List.length_eq_zero_iff,-Int.natCast_eq_zero] at h
   rw [if_neg (by omega)] at hW
   refine cnd_dec (fun h2 => ?_) (fun h2 => ?_)
   ·rw [if_pos (by omega)] at hW
    simpa using hW
   ·rw [if_neg (by omega)] at hW
    have h3:((r.c.length:Int) - 1).toNat = r.c.length - 1:=by omega
    have h4:r.c.length - 1 < r.c.length:=by omega
    have h5:0 ≤ (r.c.length:Int) - 1:=by omega
    have hl:=cChk_len h
    simp +contextual (disch:=omega) [-getElem?_pos,-List.length_eq_zero_iff,-Int.natCast_eq_zero,wrap64,get_nth (l:=r.c),h3,h4,h5]
    refine cnd_dec (fun h6 => ?_) (fun h6 => ?_)
    ·rw [if_pos (by omega)] at hW
     simpa using hW
    ·rw [if_neg (by omega)] at hW
     have hq:(if fsE (sStep r.c) (r.c.length - 1) 1 = 0 then fsE (lStep (sLv r)) (7 - 1) 1 else (4:Int)) = W:=hW
     clear hW
     refine go_loop (fun i:Nat => v_storage_Check_s0 r.c.length i r.cells G) (fun i => 1 ≤ i ∧ i ≤ r.c.length ∧ (if fsE (sStep r.c) (r.c.length - i) i = 0 then fsE (lStep (sLv r)) (7 - 1) 1 else (4:Int)) = W) (fun i => r.c.length - i) 1 rfl (by simp) ⟨by omega,by omega,hq⟩ ?_
     rintro i ⟨hi1,hi,hq⟩
     simp +contextual (disch:=omega) [-getElem?_pos,-List.length_eq_zero_iff,-Int.natCast_eq_zero,wrap64,v_storage_Check_b0]
     refine cnd_dec (fun h7 => ?_) (fun h7 => ?_)
     ·have h7:i < r.c.length:=by omega
      rw [fsE_step h7] at hq
      have h8:((i:Int) - 1).toNat = i - 1:=by omega
      have h9:i - 1 < r.c.length:=by omega
      have h10:0 ≤ (i:Int) - 1:=by omega
      simp +contextual (disch:=omega) [-getElem?_pos,-List.length_eq_zero_iff,-Int.natCast_eq_zero,wrap64,get_nth (l:=r.c),h8,h9,h10,h7]
      refine cnd_dec (fun h11 => ?_) (fun h11 => ?_)
      ·have e:sStep r.c i = 4:=by rw [sStep,if_pos h11]
       rw [e] at hq
       simpa using hq
      ·have e:sStep r.c i = 0:=by rw [sStep,if_neg h11]
       rw [e,if_pos rfl] at hq
       exact rnd_next (i + 1) (by simp) ⟨by omega,by omega,hq⟩ (by omega)
     ·have h7:i = r.c.length:=by omega
      subst h7
      rw [fsE_end] at hq
      rw [if_pos rfl] at hq
      simp +contextual (disch:=omega) [-getElem?_pos,-List.length_eq_zero_iff,-Int.natCast_eq_zero,wrap64,get_nth (l:=r.c),h3,h4,h5]
      have hL:(sLv r).length = 7:=rfl
      have hO:[V.int IntKind.i64 (nth r.c 0).x,V.int IntKind.i64 r.d,V.int IntKind.i64 r.l,V.int IntKind.i64 r.f,V.int IntKind.i64 r.s,V.int IntKind.i64 r.t,V.int IntKind.i64 (nth r.c (r.c.length - 1)).x] = (sLv r).map (V.int .i64):=rfl
      rw [hO]
      generalize sLv r = L at hq hL ⊢
      refine go_loop (fun i:Nat => v_storage_Check_s1 i (L.map (V.int .i64)) G) (fun i => 1 ≤ i ∧ i ≤ 7 ∧ fsE (lStep L) (7 - i) i = W) (fun i => 7 - i) 1 rfl (by simp) ⟨by omega,by omega,hq⟩ ?_
      rintro j ⟨hj1,hj,hq⟩
      simp +contextual (disch:=omega) [-getElem?_pos,-List.length_eq_zero_iff,-Int.natCast_eq_zero,wrap64,v_storage_Check_b1]
      refine cnd_dec (fun h7 => ?_) (fun h7 => ?_)
      ·have h7:j < 7:=by omega
       rw [fsE_step h7] at hq
       have h8:((j:Int) - 1).toNat = j - 1:=by omega
       have h9:j - 1 < L.length:=by omega
       have h10:0 ≤ (j:Int) - 1:=by omega
       have h11:j < L.length:=by omega
       simp +contextual (disch:=omega) [-getElem?_pos,-List.length_eq_zero_iff,-Int.natCast_eq_zero,wrap64,get_nth (l:=L),h8,h9,h10,h7,h11,hL]
       refine cnd_dec (fun h12 => ?_) (fun h12 => ?_)
       ·have e:lStep L j = 4:=by rw [lStep,if_pos h12]
        rw [e] at hq
        simpa using hq
       ·have e:lStep L j = 0:=by rw [lStep,if_neg h12]
        rw [e,if_pos rfl] at hq
        exact rnd_next (j + 1) (by simp) ⟨by omega,by omega,hq⟩ (by omega)
      ·have h7:j = 7:=by omega
       subst h7
       simpa [fsE] using hq)
theorem sChk_c {r:Rs} (h:sChk r = 0):cChk r.c = 0:=by
 unfold sChk at h
 split at h
 ·rename_i h1;exact h
 ·rename_i h1;exact Decidable.of_not_not h1
end Go.Proofs.YtfjdfnegookkcaaGreat
namespace Go.Proofs.YtfjdfnegookkcaaGreat
set_option linter.all false
open Go.Vm
attribute [local simp] cond_yes cond_yes2 int_beq int_bne
theorem cv_last {c:List Pt} (h:Cv c):∀ {m i:Nat},i + m < c.length → (nth c i).x ≤ (nth c (i + m)).x
 | 0,i,_ => by simp
 | m + 1,i,hi => by
   have h1:=cv_last h (m:=m) (i:=i) (by omega)
   have h2:=h.up (i + m + 1) (by omega) (by omega)
   have h3:i + m + 1 - 1 = i + m:=by omega
   rw [h3] at h2
   have h4:i + (m + 1) = i + m + 1:=by omega
   rw [h4]
   omega
theorem c_r03_Check (r:Rs) (G:List GObj):Lim F 49 [.agg r.cells] G = some (i64 (sChk r),G) :=
 eq_of rfl rfl (by
  generalize hW:sChk r = W
  unfold sChk at hW
  by_cases h:cChk r.c = 0
  ·rw [if_neg (by omega)] at hW
   have hl:=cChk_len h
   simp +contextual (disch:=omega) [-getElem?_pos,-List.length_eq_zero_iff,-Int.natCast_eq_zero,wrap64,v_r03_Check,c_r02_Check,h]
   refine cnd_dec (fun h2 => ?_) (fun h2 => ?_)
   ·rw [if_pos (by omega)] at hW
    simpa using hW
   ·rw [if_neg (by omega)] at hW
    have h3:((r.c.length:Int) - 1).toNat = r.c.length - 1:=by omega
    have h4:r.c.length - 1 < r.c.length:=by omega
    have h5:0 ≤ (r.c.length:Int) - 1:=by omega
    refine go_loop (fun i:Nat => v_r03_Check_s0 r.c.length (pts r.c) r.c.length i r.cells G) (fun i => i ≤ r.c.length ∧ ∀ j,j < i → (nth r.c j).x ≤ 16777216) (fun i => r.c.length - i) 0 rfl (by simp) ⟨by omega,by omega⟩ ?_
    rintro i ⟨hi,hz⟩
    simp +contextual (disch:=omega) [-getElem?_pos,-List.length_eq_zero_iff,-Int.natCast_eq_zero,wrap64,v_r03_Check_b0]
    refine cnd_dec (fun h6 => ?_) (fun h6 => ?_)
    ·have h6:i < r.c.length:=by omega
     simp +contextual (disch:=omega) [-getElem?_pos,-List.length_eq_zero_iff,-Int.natCast_eq_zero,wrap64,get_nth (l:=r.c),h6]
     refine cnd_dec (fun h7 => ?_) (fun h7 => ?_)
     ·have h8:=cv_last (cv_of h) (m:=r.c.length - 1 - i) (i:=i) (by omega)
      rw [show i + (r.c.length - 1 - i) = r.c.length - 1 by omega] at h8
      rw [if_pos (by omega)] at hW
      simpa using hW
     ·exact rnd_next (i + 1) (by simp) ⟨by omega,fun j hj => by rcases Nat.lt_or_ge j i with h | h;exact hz j h;rw [show j = i by omega];omega⟩ (by omega)
    ·have h6:i = r.c.length:=by omega
     subst h6
     have h8:=hz (r.c.length - 1) (by omega)
     rw [if_neg (by omega)] at hW
     have hq:(if fsE (sStep r.c) (r.c.length - 1) 1 = 0 then fsE (lStep (sLv r)) (7 - 1) 1 else (4:Int)) = W:=hW
     clear hW
     refine go_loop (fun i:Nat => v_r03_Check_s1 r.c.length i r.cells G) (fun i => 1 ≤ i ∧ i ≤ r.c.length ∧ (if fsE (sStep r.c) (r.c.length - i) i = 0 then fsE (lStep (sLv r)) (7 - 1) 1 else (4:Int)) = W) (fun i => r.c.length - i) 1 rfl (by simp) ⟨by omega,by omega,hq⟩ ?_
     rintro i ⟨hi1,hi,hq⟩
     simp +contextual (disch:=omega) [-getElem?_pos,-List.length_eq_zero_iff,-Int.natCast_eq_zero,wrap64,v_r03_Check_b1]
     refine cnd_dec (fun h7 => ?_) (fun h7 => ?_)
     ·have h7:i < r.c.length:=by omega
      rw [fsE_step h7] at hq
      have h8:((i:Int) - 1).toNat = i - 1:=by omega
      have h9:i - 1 < r.c.length:=by omega
      have h10:0 ≤ (i:Int) - 1:=by omega
      simp +contextual (disch:=omega) [-getElem?_pos,-List.length_eq_zero_iff,-Int.natCast_eq_zero,wrap64,get_nth (l:=r.c),h8,h9,h10,h7]
      refine cnd_dec (fun h11 => ?_) (fun h11 => ?_)
      ·have e:sStep r.c i = 4:=by rw [sStep,if_pos h11]
       rw [e] at hq
       simpa using hq
      ·have e:sStep r.c i = 0:=by rw [sStep,if_neg h11]
       rw [e,if_pos rfl] at hq
       exact rnd_next (i + 1) (by simp) ⟨by omega,by omega,hq⟩ (by omega)
     ·have h7:i = r.c.length:=by omega
      subst h7
      rw [fsE_end] at hq
      rw [if_pos rfl] at hq
      simp +contextual (disch:=omega) [-getElem?_pos,-List.length_eq_zero_iff,-Int.natCast_eq_zero,wrap64,get_nth (l:=r.c),h3,h4,h5]
      have hL:(sLv r).length = 7:=rfl
      have hO:[[V.int IntKind.i64 (nth r.c 0).x],[V.int IntKind.i64 r.d],[V.int IntKind.i64 r.l],[V.int IntKind.i64 r.f],[V.int IntKind.i64 r.s],[V.int IntKind.i64 r.t],[V.int IntKind.i64 (nth r.c (r.c.length - 1)).x]] = (sLv r).map (fun n => [V.int .i64 n]):=rfl
      rw [hO]
      generalize sLv r = L at hq hL ⊢
      refine go_loop (fun i:Nat => v_r03_Check_s2 (.slice none 1 (L.map (fun n => [V.int .i64 n]))) i G) (fun i => 1 ≤ i ∧ i ≤ 7 ∧ fsE (lStep L) (7 - i) i = W) (fun i => 7 - i) 1 rfl (by simp) ⟨by omega,by omega,hq⟩ ?_
      rintro j ⟨hj1,hj,hq⟩
      simp +contextual (disch:=omega) [-getElem?_pos,-List.length_eq_zero_iff,-Int.natCast_eq_zero,wrap64,v_r03_Check_b2,hL]
      refine cnd_dec (fun h7 => ?_) (fun h7 => ?_)
      ·have h7:j < 7:=by omega
       rw [fsE_step h7] at hq
       have h8:((j:Int) - 1).toNat = j - 1:=by omega
       have h9:j - 1 < L.length:=by omega
       have h10:0 ≤ (j:Int) - 1:=by omega
       have h11:j < L.length:=by omega
       simp +contextual (disch:=omega) [-getElem?_pos,-List.length_eq_zero_iff,-Int.natCast_eq_zero,wrap64,get_nth (l:=L),h8,h9,h10,h7,h11,hL]
       refine cnd_dec (fun h12 => ?_) (fun h12 => ?_)
       ·have e:lStep L j = 4:=by rw [lStep,if_pos h12]
        rw [e] at hq
        simpa using hq
       ·have e:lStep L j = 0:=by rw [lStep,if_neg h12]
        rw [e,if_pos rfl] at hq
        exact rnd_next (j + 1) (by simp) ⟨by omega,by omega,hq⟩ (by omega)
      ·have h7:j = 7:=by omega
       subst h7
       simpa [fsE] using hq
  ·rw [if_pos h] at hW
   simp +contextual (disch:=omega) [-getElem?_pos,-List.length_eq_zero_iff,-Int.natCast_eq_zero,wrap64,v_r03_Check,c_r02_Check,h]
   exact hW)
def sWr (r:Rs) (l:Int):Int:=if sChk r ≠ 0 then sChk r else if 0 ≤ l ∧ l ≤ 16777216 then 0 else 1
theorem sWr_c {r:Rs} {l:Int} (h:sWr r l = 0):sChk r = 0:=by
 unfold sWr at h
 split at h
 ·exact h
 ·rename_i h1;exact Decidable.of_not_not h1
theorem c_r03_wrong (r:Rs) (l:Int) (G:List GObj):Lim F 37 [.agg r.cells,i64 l] G = some (i64 (sWr r l),G) :=
 eq_of rfl rfl (by
  by_cases h:sChk r = 0
  ·by_cases h1:0 ≤ l
   ·by_cases h2:l ≤ 16777216
    ·simp +contextual (disch:=omega) [-getElem?_pos,-List.length_eq_zero_iff,-Int.natCast_eq_zero,wrap64,v_r03_wrong,c_r03_Check,h,h1,h2,c_r01_In,sWr]
    ·simp +contextual (disch:=omega) [-getElem?_pos,-List.length_eq_zero_iff,-Int.natCast_eq_zero,wrap64,v_r03_wrong,c_r03_Check,h,h1,h2,c_r01_In,sWr]
   ·simp +contextual (disch:=omega) [-getElem?_pos,-List.length_eq_zero_iff,-Int.natCast_eq_zero,wrap64,v_r03_wrong,c_r03_Check,h,h1,c_r01_In,sWr]
  ·simp +contextual (disch:=omega) [-getElem?_pos,-List.length_eq_zero_iff,-Int.natCast_eq_zero,wrap64,v_r03_wrong,c_r03_Check,h,sWr])
theorem c_r03_Volume (r:Rs) (l:Int) (G:List GObj):Lim F 9 [.agg r.cells,i64 l] G = some (.tuple [i64 (if sWr r l = 0 then cval r.c l else 0),i64 (sWr r l)],G) :=
 eq_of rfl rfl (by
  by_cases h:sWr r l = 0
  ·simp +contextual (disch:=omega) [-getElem?_pos,-List.length_eq_zero_iff,-Int.natCast_eq_zero,wrap64,v_r03_Volume,c_r03_wrong,h,c_r02_At,sChk_c (sWr_c h)]
  ·simp +contextual (disch:=omega) [-getElem?_pos,-List.length_eq_zero_iff,-Int.natCast_eq_zero,wrap64,v_r03_Volume,c_r03_wrong,h])
end Go.Proofs.YtfjdfnegookkcaaGreat
namespace Go.Proofs.YtfjdfnegookkcaaGreat
set_option linter.all false
open Go.Vm
attribute [local simp] cond_yes cond_yes2 int_beq int_bne
def lpol (c:List Pt) (y:Int) (i:Nat):Int :=
 (nth c i).x + ((y - (nth c i).y + 1) * ((nth c (i + 1)).x - (nth c i).x) - 1).tdiv ((nth c (i + 1)).y - (nth c i).y)
def clF (c:List Pt) (y:Int):Nat → Nat → Int
 | 0,_ => (nth c (c.length - 1)).x
 | m + 1,i => if y < (nth c (i + 1)).y then lpol c y i else clF c y m (i + 1)
def clast (c:List Pt) (y:Int):Int:=clF c y (c.length - 1) 0
theorem clF_step {c:List Pt} {y:Int} {i n:Nat} (h:i < n):clF c y (n - i) i = if y < (nth c (i + 1)).y then lpol c y i else clF c y (n - (i + 1)) (i + 1):=by
 obtain ⟨m,hm⟩:∃ m,n - i = m + 1:=⟨n - i - 1,by omega⟩
 rw [hm,clF,show n - (i + 1) = m by omega]
theorem c_curve_Last {c:List Pt} (h:cChk c = 0) (y:Int) (G:List GObj) :
  Lim F 81 [pts c,i64 y] G = some (.tuple [i64 (if y < (nth c 0).y then 0 else clast c y),.bool (decide ((nth c 0).y ≤ y)),i64 0],G) :=
 eq_of rfl rfl (by
  have hc:=cv_of h
  have hp:=hc.pos
  have hl:=hc.few
  simp +contextual (disch:=omega) [-getElem?_pos,-List.length_eq_zero_iff,-Int.natCast_eq_zero,wrap64,v_curve_Last,c_curve_Check,h,get_nth (l:=c),hp]
  refine cnd_dec (fun h1 => ⟨fun h2 => absurd h1 (by omega),h1⟩) (fun h1 => ?_)
  have hT:(List.take c.length (List.map Pt.row c)).tail = c.tail.map Pt.row:=by
   rw [List.take_of_length_le (by simp),List.map_tail]
  have hTl:c.tail.length = c.length - 1:=by simp
  have hTn:∀ i,nth c.tail i = nth c (i + 1):=fun i => by simp [nth]
  rw [hT]
  generalize c.tail = T at hTl hTn ⊢
  refine go_loop (fun i:Nat => v_curve_Last_s0 (pts c) y (.slice none 2 (T.map Pt.row)) ((c.length - 1:Nat):Int) i G) (fun i => i ≤ c.length - 1 ∧ clF c y (c.length - 1 - i) i = clast c y ∧ (nth c i).y ≤ y) (fun i => c.length - 1 - i) 0 rfl (by simp) ⟨by omega,rfl,by omega⟩ ?_
  rintro i ⟨hi,hq,hy⟩
  simp +contextual (disch:=omega) [-getElem?_pos,-List.length_eq_zero_iff,-Int.natCast_eq_zero,wrap64,v_curve_Last_b0]
  refine cnd_dec (fun h2 => ?_) (fun h2 => ?_)
  ·have h2:i < c.length - 1:=by omega
   rw [clF_step h2] at hq
   have h3:i < T.length:=by omega
   have h4:i < c.length:=by omega
   simp +contextual (disch:=omega) [-getElem?_pos,-List.length_eq_zero_iff,-Int.natCast_eq_zero,wrap64,get_nth (l:=T),get_nth (l:=c),h3,h4,hTn]
   refine cnd_dec (fun h5 => ?_) (fun h5 => ?_)
   ·rw [if_pos h5] at hq
    have y1:=hc.y0 i h4
    have y2:=hc.y0 (i + 1) (by omega)
    have x1:=hc.x0 i h4
    have x2:=hc.x0 (i + 1) (by omega)
    have u1:=hc.up (i + 1) (by omega) (by omega)
    have u2:=hc.prod (i + 1) (by omega) (by omega)
    simp only [Nat.add_sub_cancel] at u1 u2
    have a1:(y - (nth c i).y + 1) * ((nth c (i + 1)).x - (nth c i).x) ≤ ((nth c (i + 1)).y - (nth c i).y) * ((nth c (i + 1)).x - (nth c i).x):=Int.mul_le_mul_of_nonneg_right (by omega) (by omega)
    have a2:0 < (y - (nth c i).y + 1) * ((nth c (i + 1)).x - (nth c i).x):=Int.mul_pos (by omega) (by omega)
    have b1:0 ≤ ((y - (nth c i).y + 1) * ((nth c (i + 1)).x - (nth c i).x) - 1).tdiv ((nth c (i + 1)).y - (nth c i).y):=Int.tdiv_nonneg (by omega) (by omega)
    have b2:((y - (nth c i).y + 1) * ((nth c (i + 1)).x - (nth c i).x) - 1).tdiv ((nth c (i + 1)).y - (nth c i).y) ≤ (y - (nth c i).y + 1) * ((nth c (i + 1)).x - (nth c i).x) - 1:=Int.tdiv_le_self _ (by omega)
    have d0:¬ (nth c (i + 1)).y - (nth c i).y = 0:=by omega
    have e0:¬ y < (nth c 0).y:=h1
    have e1:(nth c 0).y ≤ y:=by omega
    simp +contextual (disch:=omega) [-getElem?_pos,-List.length_eq_zero_iff,-Int.natCast_eq_zero,wrap64,wrap64,d0,e0,e1]
    rw [← hq]
    rfl
   ·rw [if_neg h5] at hq
    exact rnd_next (i + 1) (by simp) ⟨by omega,hq,by omega⟩ (by omega)
  ·have h2:i = c.length - 1:=by omega
   subst h2
   have h4:c.length - 1 < c.length:=by omega
   have h5:((c.length:Int) - 1).toNat = c.length - 1:=by omega
   have e0:¬ y < (nth c 0).y:=h1
   have e1:(nth c 0).y ≤ y:=by omega
   rw [Nat.sub_self] at hq
   simp +contextual (disch:=omega) [-getElem?_pos,-List.length_eq_zero_iff,-Int.natCast_eq_zero,wrap64,get_nth (l:=c),h4,h5,e0,e1]
   rw [← hq]
   rfl)
def hgt (r:Rs) (v:Int):Int:=if v < (nth r.c 0).y then (nth r.c 0).x else clast r.c v
theorem c_storage_Height {r:Rs} (h:sChk r = 0) (v:Int) (G:List GObj):Lim F 54 [.agg r.cells,i64 v] G = some (i64 (hgt r v),G) :=
 eq_of rfl rfl (by
  have hp:=(cv_of (sChk_c h)).pos
  by_cases h1:v < (nth r.c 0).y
  ·have h2:¬ (nth r.c 0).y ≤ v:=by omega
   simp +contextual (disch:=omega) [-getElem?_pos,-List.length_eq_zero_iff,-Int.natCast_eq_zero,wrap64,v_storage_Height,c_curve_Last (sChk_c h),h1,h2,get_nth (l:=r.c),hp,hgt]
  ·have h2:(nth r.c 0).y ≤ v:=by omega
   simp +contextual (disch:=omega) [-getElem?_pos,-List.length_eq_zero_iff,-Int.natCast_eq_zero,wrap64,v_storage_Height,c_curve_Last (sChk_c h),h1,h2,get_nth (l:=r.c),hp,hgt])
end Go.Proofs.YtfjdfnegookkcaaGreat
namespace Go.Proofs.YtfjdfnegookkcaaGreat
set_option linter.all false
open Go.Vm
attribute [local simp] cond_yes cond_yes2 int_beq int_bne
theorem lexC_asym:∀ {p q:List Int},lexC p q < 0 → ¬lexC q p < 0
 | [],[],h => by simp [lexC] at h
 | [],_ :: _,_ => by simp [lexC]
 | _ :: _,[],h => by simp [lexC] at h
 | a :: p,b :: q,h => by
   have ih:=lexC_asym (p:=p) (q:=q)
   simp only [lexC] at h ⊢
   rcases Int.lt_trichotomy a b with h1 | h1 | h1
   ·rw [if_neg (by omega),if_pos h1];omega
   ·subst h1
    simp only [Int.lt_irrefl,if_false] at h ⊢
    exact ih h
   ·rw [if_neg (by omega),if_pos h1] at h;omega
theorem lexC_trans:∀ {p q r:List Int},lexC p q < 0 → lexC q r < 0 → lexC p r < 0
 | [],[],_,h,_ => by simp [lexC] at h
 | _ :: _,[],_,h,_ => by simp [lexC] at h
 | _,_ :: _,[],_,h => by simp [lexC] at h
 | [],_ :: _,_ :: _,_,_ => by simp [lexC]
 | a :: p,b :: q,c :: r,h,h' => by
   have ih:=lexC_trans (p:=p) (q:=q) (r:=r)
   simp only [lexC] at h h' ⊢
   rcases Int.lt_trichotomy a b with h1 | h1 | h1
   ·rcases Int.lt_trichotomy b c with h2 | h2 | h2
    ·rw [if_pos (by omega)];omega
    ·rw [if_pos (by omega)];omega
    ·rw [if_neg (by omega),if_pos h2] at h';omega
   ·subst h1
    simp only [Int.lt_irrefl,if_false] at h
    rcases Int.lt_trichotomy a c with h2 | h2 | h2
    ·rw [if_pos h2];omega
    ·subst h2
     simp only [Int.lt_irrefl,if_false] at h' ⊢
     exact ih h h'
    ·rw [if_neg (by omega),if_pos h2] at h';omega
   ·rw [if_neg (by omega),if_pos h1] at h;omega
theorem bet_asym {a b:Int × Int} {p q:List Int} (h:betP a b p q):¬betP b a q p:=by
 rw [bet_iff] at h ⊢
 unfold vgt at h ⊢
 have:=lexC_asym (p:=p) (q:=q)
 rcases h with h | ⟨h1,h2,h3⟩
 ·omega
 ·have:=this h3;omega
theorem bet_trans {a b c:Int × Int} {p q r:List Int} (h:betP a b p q) (h':betP b c q r):betP a c p r:=by
 rw [bet_iff] at h h' ⊢
 unfold vgt at h h' ⊢
 have:=lexC_trans (p:=p) (q:=q) (r:=r)
 rcases h with h | ⟨h1,h2,h3⟩
 ·omega
 ·rcases h' with h' | ⟨h4,h5,h6⟩
  ·omega
  ·have:=this h3 h6
   omega
theorem bet_irr {a:Int × Int} {p:List Int}:¬betP a a p p:=fun h => bet_asym h h
theorem c_mk_Flows {l:List Int} {k:Nat} (hd:okd l k) {n:Nat} {m:Int} (hn:n ≤ 1000) (hm:m ≤ 1000000):∃ f k',Lim F 28 [.gptr 0 0,i64 n,i64 m] [dk l k] = some (own f,[dk l k']) ∧ okd l k' ∧ f.length = n:=by
 suffices h:∀ Q:V → List GObj → Prop,(∀ f k',okd l k' → f.length = n → Q (own f) [dk l k']) → Ret (Lim F) 28 [.gptr 0 0,i64 n,i64 m] [dk l k] Q by
  obtain ⟨_,_,h,f,k',rfl,rfl,h1⟩:=h (fun v G => ∃ f k',v = own f ∧ G = [dk l k'] ∧ okd l k' ∧ f.length = n) fun f k' h1 h2 => ⟨f,k',rfl,rfl,h1,h2⟩
  exact ⟨f,k',h,h1⟩
 intro Q hQ
 refine ret_of rfl rfl ?_
 simp +contextual (disch:=omega) [-getElem?_pos,-List.length_eq_zero_iff,-Int.natCast_eq_zero,wrap64,v_mk_Flows]
 refine go_loop (fun s:List Int × Nat => v_mk_Flows_s0 (.gptr 0 0) m (.slice (some 1016) 1 (s.1.map fun n => [i64 n])) n s.1.length s.1.length [dk l s.2])
  (fun s => s.1.length ≤ n ∧ okd l s.2) (fun s => n - s.1.length) ([],k) rfl (by simp) ⟨by simp,hd⟩ ?_
 rintro ⟨f,k⟩ ⟨h1,hd⟩
 simp only at h1 hd
 obtain ⟨a,k2,n2,hd2,ha⟩:=c_Next hd m (by omega)
 simp +contextual (disch:=omega) [-getElem?_pos,-List.length_eq_zero_iff,-Int.natCast_eq_zero,wrap64,v_mk_Flows_b0]
 refine cnd_dec (fun h4 => ?_) (fun h4 => ?_)
 ·simp +contextual (disch:=omega) [-getElem?_pos,-List.length_eq_zero_iff,-Int.natCast_eq_zero,wrap64,n2]
  exact rnd_next (f ++ [a],k2) (by simp) ⟨by simp;omega,hd2⟩ (by simp;omega)
 ·exact hQ f k hd (by omega)
end Go.Proofs.YtfjdfnegookkcaaGreat
namespace Go.Proofs.YtfjdfnegookkcaaGreat
set_option linter.all false
open Go.Vm
attribute [local simp] cond_yes cond_yes2 int_beq int_bne
noncomputable def wrE (us:List Un) (ss:List Us) (g:Int):Int :=
 if 6 < us.length then 10 else if us.length ≠ ss.length then 3 else if ¬allV us ss then 3 else if g < 1 ∨ 1073741824 < g then 1 else 0
theorem c_r19_wrong (us:List Un) (ss:List Us) (g:Int) (G:List GObj):Lim F 88 [uns us,sts ss,i64 g] G = some (i64 (wrE us ss g),G) :=
 eq_of rfl rfl (by
  generalize hE:wrE us ss g = E
  unfold wrE at hE
  simp +contextual (disch:=omega) [-getElem?_pos,-List.length_eq_zero_iff,-Int.natCast_eq_zero,wrap64,v_r19_wrong]
  refine cnd_dec (fun h1 => ?_) (fun h1 => cnd_bool (fun h2 => ?_) (fun h2 => ?_))
  ·rw [if_pos (by omega)] at hE
   exact hE
  ·simp [-List.length_eq_zero_iff,-Int.natCast_eq_zero] at h2
   rw [if_neg (by omega),if_pos (by omega)] at hE
   exact hE
  ·simp [-List.length_eq_zero_iff,-Int.natCast_eq_zero] at h2
   have hl:us.length = ss.length:=by omega
   rw [if_neg (by omega),if_neg (by omega)] at hE
   refine go_loop (fun i:Nat => v_r19_wrong_s0 (sts ss) g (uns us) us.length i G) (fun i => i ≤ us.length ∧ ∀ j,j < i → validP (nth us j) (nth ss j)) (fun i => us.length - i) 0 rfl (by simp) ⟨by omega,by omega⟩ ?_
   rintro i ⟨hi,hv⟩
   simp +contextual (disch:=omega) [-getElem?_pos,-List.length_eq_zero_iff,-Int.natCast_eq_zero,wrap64,v_r19_wrong_b0]
   refine cnd_dec (fun h3 => ?_) (fun h3 => ?_)
   ·have h3:i < us.length:=by omega
    by_cases h4:validP (nth us i) (nth ss i)
    ·simp +contextual (disch:=omega) [-getElem?_pos,-List.length_eq_zero_iff,-Int.natCast_eq_zero,wrap64,get_nth (l:=us),get_nth (l:=ss),c_r18_Valid,h4]
     refine rnd_next (i + 1) (by simp) ⟨by omega,fun j hj => ?_⟩ (by omega)
     rcases Nat.lt_or_ge j i with h5 | h5
     ·exact hv j h5
     ·rwa [show j = i by omega]
    ·rw [if_pos (fun h => h4 (h i h3))] at hE
     simp +contextual (disch:=omega) [-getElem?_pos,-List.length_eq_zero_iff,-Int.natCast_eq_zero,wrap64,get_nth (l:=us),get_nth (l:=ss),c_r18_Valid,h4]
     exact hE
   ·obtain rfl:i = us.length:=by omega
    rw [if_neg (fun h => h hv)] at hE
    refine cnd_bool (fun h5 => ?_) (fun h5 => ?_)
    ·simp [-List.length_eq_zero_iff,-Int.natCast_eq_zero] at h5
     rw [if_pos (by omega)] at hE
     exact hE
    ·simp [-List.length_eq_zero_iff,-Int.natCast_eq_zero] at h5
     rw [if_neg (by omega)] at hE
     exact hE)
noncomputable def optR (u:Un) (s:Us) (g:Int):List Int:=([0,s.flow] ++ goods u g).filter fun q => decide (canP u s q)
theorem mem_optR {u:Un} {s:Us} {g q:Int}:q ∈ optR u s g ↔ q ∈ chs u s g:=by
 rw [mem_chs]
 simp only [optR,List.mem_filter,decide_eq_true_eq,List.mem_append,List.mem_cons,List.not_mem_nil,or_false]
 constructor
 ·rintro ⟨(h | h) | h,h2⟩
  ·exact ⟨.inr (.inl h),h2⟩
  ·exact ⟨.inr (.inr h),h2⟩
  ·exact ⟨.inl h,h2⟩
 ·rintro ⟨h | h | h,h2⟩
  ·exact ⟨.inr h,h2⟩
  ·exact ⟨.inl (.inl h),h2⟩
  ·exact ⟨.inl (.inr h),h2⟩
theorem optR_len {u:Un} {s:Us} {g:Int} (h:flE u g = 0):(optR u s g).length ≤ 202:=by
 have h1:=goods_len h
 have:(optR u s g).length ≤ ([0,s.flow] ++ goods u g).length:=List.length_filter_le _ _
 simp at this
 omega
theorem c_r19_options {u:Un} {s:Us} (hv:validP u s) (g:Int) (G:List GObj):Lim F 105 [un u,us s,i64 g] G =
  some (if flE u g = 0 then .tuple [.slice (some 0) 1 ((optR u s g).map fun n => [i64 n]),i64 0] else .tuple [.slice (some 0) 1 [],i64 (flE u g)],G) :=
 eq_of rfl rfl (by
  by_cases he:flE u g = 0
  ·have hlen:=goods_len he
   have hf:fls u g = goods u g:=by simp [fls,he]
   have hc:optR u s g = (0 :: s.flow :: goods u g).filter fun q => decide (canP u s q):=rfl
   rw [if_pos he,hc]
   generalize hL:(0 :: s.flow :: goods u g) = L
   have hLl:L.length = (goods u g).length + 2:=by rw [← hL];simp
   have hLm:[i64 0] :: [i64 s.flow] :: (goods u g).map (fun n => [i64 n]) = L.map fun n => [i64 n]:=by rw [← hL];rfl
   simp +contextual (disch:=omega) [-getElem?_pos,-List.length_eq_zero_iff,-Int.natCast_eq_zero,wrap64,v_r19_options,c_r18_Flows,he,hf,hLm]
   refine go_loop (fun i:Nat => v_r19_options_s0 (.slice (some 1039) 1 (((L.take i).filter fun q => decide (canP u s q)).map fun n => [i64 n])) (.slice (some 1024) 1 (L.map fun n => [i64 n])) L.length i u.row s.row L.length ((L.take i).filter fun q => decide (canP u s q)).length G)
    (fun i => i ≤ L.length) (fun i => L.length - i) 0 rfl (by simp [hLl];omega) (by omega) ?_
   intro i hi
   have hlen2:((L.take i).filter fun q => decide (canP u s q)).length ≤ i:=Nat.le_trans (List.length_filter_le _ _) (by simp;omega)
   simp +contextual (disch:=omega) [-getElem?_pos,-List.length_eq_zero_iff,-Int.natCast_eq_zero,wrap64,v_r19_options_b0]
   refine cnd_dec (fun h1 => ?_) (fun h1 => ?_)
   ·have h1:i < L.length:=by omega
    have hM:=c_r18_May u s (nth L i) []
    by_cases h3:canP u s (nth L i)
    ·have h4:decide (validP u s ∧ mayP u s (nth L i)) = true:=decide_eq_true h3
     rw [h4] at hM
     have h5:(L.take (i + 1)).filter (fun q => decide (canP u s q)) = (L.take i).filter (fun q => decide (canP u s q)) ++ [nth L i]:=by
      rw [take_snoc h1,List.filter_append]
      simp [h3]
     simp +contextual (disch:=omega) [-getElem?_pos,-List.length_eq_zero_iff,-Int.natCast_eq_zero,wrap64,get_int h1,hM]
     exact rnd_next (i + 1) (by rw [h5];simp) (by omega) (by omega)
    ·have h4:decide (validP u s ∧ mayP u s (nth L i)) = false:=decide_eq_false h3
     rw [h4] at hM
     have h5:(L.take (i + 1)).filter (fun q => decide (canP u s q)) = (L.take i).filter (fun q => decide (canP u s q)):=by
      rw [take_snoc h1,List.filter_append]
      simp [h3]
     simp +contextual (disch:=omega) [-getElem?_pos,-List.length_eq_zero_iff,-Int.natCast_eq_zero,wrap64,get_int h1,hM]
     exact rnd_next (i + 1) (by rw [h5];simp) (by omega) (by omega)
   ·obtain rfl:i = L.length:=by omega
    rw [List.take_length]
  ·rw [if_neg he]
   have hf:fls u g = []:=by simp [fls,he]
   simp +contextual (disch:=omega) [-getElem?_pos,-List.length_eq_zero_iff,-Int.natCast_eq_zero,wrap64,v_r19_options,c_r18_Flows,he,hf])
noncomputable abbrev ocell (g:Int) (u:Un) (s:Us):List V:=[.slice none 1 ((optR u s g).map fun n => [i64 n])]
noncomputable def allE (us:List Un) (g:Int):Int:=if allF us g then 0 else 10
theorem c_r19_all {us:List Un} {ss:List Us} (hl:us.length = ss.length) (hn:us.length ≤ 1000) (hv:allV us ss) (g:Int) (G:List GObj):Lim F 80 [uns us,sts ss,i64 g] G =
  some (.tuple [.slice (some 0) 1 (if allE us g = 0 then List.zipWith (ocell g) us ss else []),i64 (allE us g)],G) :=
 eq_of rfl rfl (by
  generalize hE:allE us g = E
  generalize hW:V.tuple [.slice (some 0) 1 (if E = 0 then List.zipWith (ocell g) us ss else []),i64 E] = W
  unfold allE at hE
  simp +contextual (disch:=omega) [-getElem?_pos,-List.length_eq_zero_iff,-Int.natCast_eq_zero,wrap64,v_r19_all]
  refine go_loop (fun i:Nat => v_r19_all_s0 (sts ss) g (.slice (some 1035) 1 (List.zipWith (ocell g) (us.take i) (ss.take i))) (uns us) us.length i i G)
   (fun i => i ≤ us.length ∧ ∀ j,j < i → flE (nth us j) g = 0) (fun i => us.length - i) 0 rfl (by simp) ⟨by omega,by omega⟩ ?_
  rintro i ⟨hi,hf⟩
  simp +contextual (disch:=omega) [-getElem?_pos,-List.length_eq_zero_iff,-Int.natCast_eq_zero,wrap64,v_r19_all_b0]
  refine cnd_dec (fun h3 => ?_) (fun h3 => ?_)
  ·have h3:i < us.length:=by omega
   have h10:i < ss.length:=by omega
   have hC:=c_r19_options (hv i h3) g []
   by_cases h4:flE (nth us i) g = 0
   ·rw [if_pos h4] at hC
    simp +contextual (disch:=omega) [-getElem?_pos,-List.length_eq_zero_iff,-Int.natCast_eq_zero,wrap64,get_nth (l:=us),get_nth (l:=ss),hC]
    refine rnd_next (i + 1) ?_ ⟨by omega,fun j hj => ?_⟩ (by omega)
    ·rw [zip_snoc h3 h10];simp
    rcases Nat.lt_or_ge j i with h5 | h5
    ·exact hf j h5
    ·rwa [show j = i by omega]
   ·rw [if_neg h4] at hC
    rw [if_neg (fun h => h4 (h i h3))] at hE
    subst hE
    simp +contextual (disch:=omega) [-getElem?_pos,-List.length_eq_zero_iff,-Int.natCast_eq_zero,wrap64,get_nth (l:=us),get_nth (l:=ss),hC,h4]
    exact hW
  ·obtain rfl:i = us.length:=by omega
   rw [if_pos (show allF us g from hf)] at hE
   subst hE
   rw [List.take_length,List.take_of_length_le (by omega)]
   simp [← hW])
theorem prod_le {n k:Int} (h1:0 ≤ n ∧ n ≤ 1073741824) (h2:0 ≤ k ∧ k ≤ 4294967296):0 ≤ n * k ∧ n * k ≤ 4611686018427387904:=by
 have:=Int.mul_le_mul h1.2 h2.2 h2.1 (by omega)
 have:=Int.mul_nonneg h1.1 h2.1
 omega
end Go.Proofs.YtfjdfnegookkcaaGreat
namespace Go.Proofs.YtfjdfnegookkcaaGreat
set_option linter.all false
open Go.Vm
def Vd:List Nat → List Nat → Prop
 | [],[] => True
 | n :: ns,d :: a => d < n ∧ Vd ns a
 | _,_ => False
def prodN:List Nat → Nat
 | [] => 1
 | n :: ns => n * prodN ns
def rk:List Nat → List Nat → Nat
 | _ :: ns,d :: a => d * prodN ns + rk ns a
 | _,_ => 0
def inc:List Nat → List Nat → Option (List Nat)
 | n :: ns,d :: a => match inc ns a with
   | some b => some (d :: b)
   | none => if d + 1 < n then some ((d + 1) :: List.replicate a.length 0) else none
 | _,_ => none
theorem vd_len:∀ {ns a:List Nat},Vd ns a → a.length = ns.length
 | [],[],_ => rfl
 | _ :: _,_ :: _,h => by simp [vd_len h.2]
 | [],_ :: _,h => h.elim
 | _ :: _,[],h => h.elim
theorem vd_nth:∀ {ns a:List Nat},Vd ns a → ∀ i,i < ns.length → nth a i < nth ns i
 | n :: ns,d :: a,h,i,hi => by
   cases i with
   | zero => exact h.1
   | succ i => exact vd_nth h.2 i (by simpa using hi)
theorem rk_lt:∀ {ns a:List Nat},Vd ns a → rk ns a < prodN ns
 | [],[],_ => by simp [rk,prodN]
 | n :: ns,d :: a,h => by
   have ih:=rk_lt h.2
   have h1:=Nat.mul_le_mul_right (prodN ns) (show d + 1 ≤ n from h.1)
   simp only [rk,prodN]
   rw [Nat.succ_mul] at h1
   omega
 | [],_ :: _,h => h.elim
 | _ :: _,[],h => h.elim
theorem rk_inj:∀ {ns a b:List Nat},Vd ns a → Vd ns b → rk ns a = rk ns b → a = b
 | [],[],[],_,_,_ => rfl
 | n :: ns,d :: a,e :: b,ha,hb,h => by
   have h1:=rk_lt ha.2
   have h2:=rk_lt hb.2
   simp only [rk] at h
   have hde:d = e:=by
    rcases Nat.lt_trichotomy d e with h3 | h3 | h3
    ·have:=Nat.mul_le_mul_right (prodN ns) (show d + 1 ≤ e from h3)
     rw [Nat.succ_mul] at this
     omega
    ·exact h3
    ·have:=Nat.mul_le_mul_right (prodN ns) (show e + 1 ≤ d from h3)
     rw [Nat.succ_mul] at this
     omega
   subst hde
   rw [rk_inj ha.2 hb.2 (by omega)]
 | [],_ :: _,_,h,_,_ => h.elim
 | [],[],_ :: _,_,h,_ => h.elim
 | _ :: _,[],_,h,_,_ => h.elim
 | _ :: _,_ :: _,[],_,h,_ => h.elim
theorem rk_zero:∀ {ns:List Nat} {k:Nat},rk ns (List.replicate k 0) = 0
 | [],k => by cases k <;> rfl
 | _ :: ns,0 => rfl
 | _ :: ns,k + 1 => by simp [List.replicate_succ,rk,rk_zero]
theorem vd_zero:∀ {ns:List Nat},(∀ n ∈ ns,0 < n) → Vd ns (List.replicate ns.length 0)
 | [],_ => trivial
 | n :: ns,h => ⟨h n (by simp),vd_zero fun m hm => h m (by simp [hm])⟩
theorem inc_spec:∀ {ns a:List Nat},Vd ns a → match inc ns a with
  | none => rk ns a + 1 = prodN ns
  | some b => Vd ns b ∧ rk ns b = rk ns a + 1
 | [],[],_ => by simp [inc,rk,prodN]
 | n :: ns,d :: a,h => by
   have ih:=inc_spec h.2
   have hl:=vd_len h.2
   unfold inc
   cases hi:inc ns a with
   | some b =>
     rw [hi] at ih
     simp only at ih ⊢
     exact ⟨⟨h.1,ih.1⟩,by simp only [rk];omega⟩
   | none =>
     rw [hi] at ih
     simp only at ih ⊢
     have hp:∀ m ∈ ns,0 < m:=fun m hm => by
      obtain ⟨i,hi,rfl⟩:=mem_nth hm
      have:=vd_nth h.2 i hi
      omega
     by_cases hd:d + 1 < n
     ·simp only [hd,if_true]
      refine ⟨⟨hd,by rw [hl];exact vd_zero hp⟩,?_⟩
      simp only [rk,rk_zero]
      rw [Nat.succ_mul]
      omega
     ·simp only [hd,if_false]
      have:n = d + 1:=by have:=h.1;omega
      subst this
      simp only [rk,prodN]
      rw [Nat.succ_mul]
      omega
 | [],_ :: _,h => h.elim
 | _ :: _,[],h => h.elim
theorem inc_none:∀ {ns a:List Nat},Vd ns a → (∀ j,j < ns.length → nth a j + 1 = nth ns j) → inc ns a = none
 | [],[],_,_ => rfl
 | n :: ns,d :: a,h,hm => by
   have ih:=inc_none h.2 fun j hj => hm (j + 1) (by simpa using hj)
   have h0:=hm 0 (by simp)
   simp only [inc,ih]
   have:¬d + 1 < n:=by simp [nth] at h0;omega
   simp [this]
 | [],_ :: _,h,_ => h.elim
 | _ :: _,[],h,_ => h.elim
theorem inc_at:∀ {ns a:List Nat} {i:Nat},Vd ns a → i < ns.length → (∀ j,i < j → j < ns.length → nth a j + 1 = nth ns j) → nth a i + 1 < nth ns i →
  inc ns a = some (a.take i ++ (nth a i + 1) :: List.replicate (ns.length - 1 - i) 0)
 | n :: ns,d :: a,0,h,_,hm,hlt => by
   have ih:=inc_none h.2 fun j hj => hm (j + 1) (by omega) (by simpa using hj)
   have hl:=vd_len h.2
   have:d + 1 < n:=by simpa [nth] using hlt
   simp only [inc,ih,this,if_true]
   simp [nth,hl]
 | n :: ns,d :: a,i + 1,h,hi,hm,hlt => by
   have hi':i < ns.length:=by simpa using hi
   have ih:=inc_at h.2 hi' (fun j h1 h2 => hm (j + 1) (by omega) (by simpa using h2)) hlt
   simp only [inc,ih]
   simp [nth]
   omega
 | [],[],_,_,hi,_,_ => by simp at hi
 | [],_ :: _,_,h,_,_,_ => h.elim
 | _ :: _,[],_,h,_,_,_ => h.elim
def planA (R:List (List Int)) (a:List Nat):List Int:=List.zipWith (fun o k => nth o k) R a
def feasR:List (List Int) → List Int → Prop
 | [],[] => True
 | o :: R,q :: F => q ∈ o ∧ feasR R F
 | _,_ => False
theorem planA_feas:∀ {R:List (List Int)} {a:List Nat},Vd (R.map List.length) a → feasR R (planA R a)
 | [],[],_ => trivial
 | o :: R,d :: a,h => ⟨nth_mem h.1,planA_feas h.2⟩
 | [],_ :: _,h => h.elim
 | _ :: _,[],h => h.elim
theorem feas_planA:∀ {R:List (List Int)} {F:List Int},feasR R F → ∃ a,Vd (R.map List.length) a ∧ planA R a = F
 | [],[],_ => ⟨[],trivial,rfl⟩
 | o :: R,q :: F,h => by
   obtain ⟨a,h1,h2⟩:=feas_planA h.2
   obtain ⟨d,h3,h4⟩:=mem_nth h.1
   exact ⟨d :: a,⟨h3,h1⟩,by simp only [planA,List.zipWith_cons_cons] at h2 ⊢;rw [h2,h4]⟩
 | [],_ :: _,h => h.elim
 | _ :: _,[],h => h.elim
noncomputable def orl (us:List Un) (ss:List Us) (g:Int):List (List Int):=List.zipWith (fun u s => optR u s g) us ss
theorem feasR_iff {g:Int}:∀ {us:List Un} {ss:List Us} {F:List Int},us.length = ss.length → (feasR (orl us ss g) F ↔ feas g us ss F)
 | [],[],[],_ => Iff.rfl
 | [],[],_ :: _,_ => Iff.rfl
 | [],_ :: _,_,h => by simp at h
 | _ :: _,[],_,h => by simp at h
 | _ :: _,_ :: _,[],_ => Iff.rfl
 | u :: us,s :: ss,q :: F,h => by
   have ih:=feasR_iff (g:=g) (us:=us) (ss:=ss) (F:=F) (by simpa using h)
   show (q ∈ optR u s g ∧ feasR (orl us ss g) F) ↔ (q ∈ chs u s g ∧ feas g us ss F)
   rw [mem_optR,ih]
theorem opt_ne {u:Un} {s:Us} {g:Int} (hv:validP u s):0 < (optR u s g).length:=by
 have:s.flow ∈ optR u s g:=by
  rw [mem_optR,mem_chs]
  refine ⟨.inr (.inr rfl),hv,?_⟩
  obtain ⟨hc,h1,h2⟩:=hv
  unfold mayP
  split
  ·rename_i h;rw [h];intro h3;omega
  ·rename_i h
   rcases h2 with h2 | ⟨h2,h3⟩
   ·exact absurd h2 h
   ·exact ⟨h2,fun h4 => h h4.1,h3⟩
 exact List.length_pos_of_mem this
def Kn (us:List Un) (ss:List Us) (R:List (List Int)) (release:Int) (r:Nat):Option (List Int) → Prop
 | none => ∀ b,Vd (R.map List.length) b → rk (R.map List.length) b < r → release < (planA R b).sum
 | some F => (∃ b,Vd (R.map List.length) b ∧ planA R b = F ∧ F.sum ≤ release) ∧
   ∀ b,Vd (R.map List.length) b → rk (R.map List.length) b < r → (planA R b).sum ≤ release → ¬betP (pwF us (planA R b),stF ss (planA R b)) (pwF us F,stF ss F) (planA R b) F
noncomputable def newB (us:List Un) (ss:List Us) (release:Int) (P:List Int):Option (List Int) → Option (List Int)
 | none => if P.sum ≤ release then some P else none
 | some F => if P.sum ≤ release then (if betP (pwF us P,stF ss P) (pwF us F,stF ss F) P F then some P else some F) else some F
theorem kn_step {us:List Un} {ss:List Us} {R:List (List Int)} {release:Int} {a:List Nat} (ha:Vd (R.map List.length) a) {best:Option (List Int)} (h:Kn us ss R release (rk (R.map List.length) a) best) :
  Kn us ss R release (rk (R.map List.length) a + 1) (newB us ss release (planA R a) best):=by
 have split:∀ b,Vd (R.map List.length) b → rk (R.map List.length) b < rk (R.map List.length) a + 1 → rk (R.map List.length) b < rk (R.map List.length) a ∨ b = a:=fun b hb hlt => by
  rcases Nat.lt_or_ge (rk (R.map List.length) b) (rk (R.map List.length) a) with h1 | h1
  ·exact .inl h1
  ·exact .inr (rk_inj hb ha (by omega))
 cases best with
 | none =>
   unfold newB
   by_cases hs:(planA R a).sum ≤ release
   ·simp only [hs,if_true]
    refine ⟨⟨a,ha,rfl,hs⟩,fun b hb hlt hsum => ?_⟩
    rcases split b hb hlt with h1 | rfl
    ·have:=h b hb h1;omega
    ·exact bet_irr
   ·simp only [hs,if_false]
    intro b hb hlt
    rcases split b hb hlt with h1 | rfl
    ·exact h b hb h1
    ·omega
 | some F =>
   obtain ⟨h1,h2⟩:=h
   unfold newB
   by_cases hs:(planA R a).sum ≤ release
   ·simp only [hs,if_true]
    by_cases hb:betP (pwF us (planA R a),stF ss (planA R a)) (pwF us F,stF ss F) (planA R a) F
    ·simp only [hb,if_true]
     refine ⟨⟨a,ha,rfl,hs⟩,fun b hb' hlt hsum => ?_⟩
     rcases split b hb' hlt with h3 | rfl
     ·exact fun h4 => h2 b hb' h3 hsum (bet_trans h4 hb)
     ·exact bet_irr
    ·simp only [hb,if_false]
     refine ⟨h1,fun b hb' hlt hsum => ?_⟩
     rcases split b hb' hlt with h3 | rfl
     ·exact h2 b hb' h3 hsum
     ·exact hb
   ·simp only [hs,if_false]
    refine ⟨h1,fun b hb' hlt hsum => ?_⟩
    rcases split b hb' hlt with h3 | rfl
    ·exact h2 b hb' h3 hsum
    ·omega
theorem kn_end {us:List Un} {ss:List Us} {g release:Int} (hl:us.length = ss.length) {best:Option (List Int)} (h:Kn us ss (orl us ss g) release (prodN ((orl us ss g).map List.length)) best) :
  match best with
  | none => ∀ F,feas g us ss F → release < F.sum
  | some F => Best g us ss release F:=by
 cases best with
 | none =>
   intro F hF
   obtain ⟨b,hb,rfl⟩:=feas_planA ((feasR_iff hl).2 hF)
   exact h b hb (rk_lt hb)
 | some F =>
   obtain ⟨⟨b,hb,e,hs⟩,h2⟩:=h
   refine ⟨?_,hs,fun E hE hEs => ?_⟩
   ·rw [← e];exact (feasR_iff hl).1 (planA_feas hb)
   ·obtain ⟨c,hc,rfl⟩:=feas_planA ((feasR_iff hl).2 hE)
    exact h2 c hc (rk_lt hc) hEs
end Go.Proofs.YtfjdfnegookkcaaGreat
namespace Go.Proofs.YtfjdfnegookkcaaGreat
set_option linter.all false
open Go.Vm
attribute [local simp] cond_yes cond_yes2 int_beq int_bne
abbrev rls (R:List (List Int)):V:=.slice none 1 (R.map fun o => [ints o])
def rb (best:Option (List Int)):V:=match best with
 | none => .nils
 | some F => ints F
noncomputable def rv (us:List Un) (ss:List Us) (best:Option (List Int)):List V:=match best with
 | none => [i64 0,i64 0]
 | some F => [i64 (pwF us F),i64 (stF ss F)]
def dcl (a:List Nat):List V:=icells (a.map fun d:Nat => (d:Int))
def ob (o:Option (List V)):List (Nat × List V):=match o with
 | none => []
 | some c => [(56,c)]
@[simp] theorem rb_men {best:Option (List Int)} {d:Nat}:(rb best).men d = false:=by cases best <;> rfl
@[simp] theorem rv_men {us:List Un} {ss:List Us} {best:Option (List Int)} {d:Nat}:((rv us ss best).all fun v => !v.men0 d) = true:=by cases best <;> rfl
@[simp] theorem dcl_men {a:List Nat} {d:Nat}:((dcl a).all fun v => !v.men0 d) = true:=icells_men
@[simp] theorem ob_drp {o:Option (List V)}:drp 56 (ob o) = []:=by cases o <;> rfl
@[simp] theorem ob_none:ob none = []:=rfl
@[simp] theorem ob_some {c:List V}:ob (some c) = [(56,c)]:=rfl
@[simp] theorem ob_kp {o:Option (List V)}:kp (Go.Vm.look 56 (ob o)) 56 [] = ob o:=by cases o <;> rfl
theorem dcl_get {a:List Nat} {i:Nat} (h:i < a.length):(dcl a)[i]? = some (i64 ((nth a i:Nat):Int)):=by
 have:=icells_get (l:=a.map fun d:Nat => (d:Int)) (i:=i) (by simpa using h)
 rw [nth_map h] at this
 exact this
@[simp] theorem dcl_len {a:List Nat}:(dcl a).length = a.length:=by simp [dcl]
theorem dcl_set {a:List Nat} {i d:Nat}:(dcl a).set i (i64 (d:Int)) = dcl (a.set i d):=by
 simp [dcl,List.map_set]
theorem nth_right {α:Type} [Inhabited α] {l m:List α} {i:Nat} (h:l.length ≤ i):nth (l ++ m) i = nth m (i - l.length):=by
 simp [nth,List.getElem?_append_right h]
theorem nth_take {α:Type} [Inhabited α] {l:List α} {i k:Nat} (h:i < k):nth (l.take k) i = nth l i:=by
 simp [nth,List.getElem?_take,h]
theorem nth_rep {n i:Nat}:nth (List.replicate n (0:Int)) i = 0:=by
 simp only [nth,List.getD,List.getElem?_replicate]
 split <;> rfl
theorem sum_take {l:List Int} {B:Int} (h:∀ x ∈ l,0 ≤ x ∧ x ≤ B):∀ j:Nat,j ≤ l.length → 0 ≤ (l.take j).sum ∧ (l.take j).sum ≤ B * j
 | 0,_ => by simp
 | j + 1,hj => by
   have ih:=sum_take h j (by omega)
   have:=h _ (nth_mem (show j < l.length from hj))
   rw [take_snoc hj]
   simp only [List.sum_append,List.sum_cons,List.sum_nil]
   have e:B * ((j + 1:Nat):Int) = B * j + B:=by
    rw [show ((j + 1:Nat):Int) = (j:Int) + 1 from rfl,Int.mul_add,Int.mul_one]
   omega
theorem planA_len {R:List (List Int)} {a:List Nat} (h:a.length = R.length):(planA R a).length = R.length:=by simp [planA,h]
theorem r19_l0 {R:List (List Int)} {a:List Nat} {us:List Un} {ss:List Us} {release:Int} {fd:Bool} {best:Option (List Int)} {G:List GObj} {K:Post} (hn:R.length ≤ 6) (ha:Vd (R.map List.length) a)
  (hb:∀ o ∈ R,∀ q ∈ o,0 ≤ q ∧ q ≤ 1073741824)
  (hK:∀ z,K (.exit 2) ⟨[(0,uns us),(1,sts ss),(3,i64 release),(11,rls R),(13,.bool fd),(14,rb best),(15,.lptr 15 0),(16,.lref 53 1 R.length),(17,.lref 56 1 R.length),(18,i64 (planA R a).sum),(57,.lref 53 1 R.length),(58,i64 R.length),(59,i64 R.length),(60,z)],
   [(15,rv us ss best),(53,dcl a),(56,icells (planA R a))],[],G⟩) :
  go (Lim F) v_r19_Best_l0 (v_r19_Best_s0 (uns us) (sts ss) release (rls R) fd (rb best) R.length R.length 0 R.length R.length 0 (rv us ss best) (dcl a) (icells (List.replicate R.length 0)) G) K:=by
 have hal:=vd_len ha
 simp only [List.length_map] at hal
 have hpl:=planA_len hal
 have hpm:∀ x ∈ planA R a,0 ≤ x ∧ x ≤ 1073741824:=by
  intro x hx
  obtain ⟨i,hi,rfl⟩:=mem_nth hx
  rw [hpl] at hi
  have h1:nth (planA R a) i = nth (nth R i) (nth a i):=nth_zip hi (by omega)
  have h2:=vd_nth ha i (by simpa using hi)
  rw [nth_map hi] at h2
  rw [h1]
  exact hb _ (nth_mem hi) _ (nth_mem h2)
 refine go_loop (fun j:Nat => v_r19_Best_s0 (uns us) (sts ss) release (rls R) fd (rb best) R.length R.length ((planA R a).take j).sum R.length R.length j (rv us ss best) (dcl a) (icells ((planA R a).take j ++ List.replicate (R.length - j) 0)) G)
  (fun j => j ≤ R.length) (fun j => R.length - j) 0 rfl (by simp) (by omega) ?_
 intro j hj
 have hs:=sum_take hpm j (by omega)
 simp +contextual (disch:=omega) [-getElem?_pos,-List.length_eq_zero_iff,-Int.natCast_eq_zero,wrap64,v_r19_Best_b0]
 refine cnd_dec (fun h1 => ?_) (fun h1 => ?_)
 ·have h1:j < R.length:=by omega
  have h2:j < a.length:=by omega
  have h3:=vd_nth ha j (by simpa using h1)
  rw [nth_map h1] at h3
  have h4:nth (planA R a) j = nth (nth R j) (nth a j):=nth_zip h1 h2
  have h5:=hpm _ (nth_mem (show j < (planA R a).length by omega))
  have h6:(icells ((planA R a).take j ++ List.replicate (R.length - j) 0))[j]? = some (i64 0):=by
   rw [icells_get (by simp;omega),nth_right (by simp;omega),nth_rep]
  have e2:((planA R a).take j ++ List.replicate (R.length - j) (0:Int)).set j (nth (nth R j) (nth a j)) = (planA R a).take (j + 1) ++ List.replicate (R.length - (j + 1)) 0:=by
   rw [List.set_append_right _ _ (by simp;omega),take_snoc (show j < (planA R a).length by omega),h4]
   have:j - ((planA R a).take j).length = 0:=by simp;omega
   rw [this]
   obtain ⟨m,hm⟩:∃ m,R.length - j = m + 1:=⟨R.length - j - 1,by omega⟩
   rw [hm,List.replicate_succ,List.set_cons_zero,show R.length - (j + 1) = m by omega]
   simp
  have e3:((planA R a).take (j + 1)).sum = ((planA R a).take j).sum + nth (nth R j) (nth a j):=by
   rw [take_snoc (show j < (planA R a).length by omega),h4];simp
  have h7:(icells ((planA R a).take (j + 1) ++ List.replicate (R.length - (j + 1)) 0))[j]? = some (i64 (nth (nth R j) (nth a j))):=by
   rw [icells_get (by simp;omega),nth_left (by simp;omega),nth_take (by omega),h4]
  rw [h4] at h5
  simp +contextual (disch:=omega) [-getElem?_pos,-List.length_eq_zero_iff,-Int.natCast_eq_zero,wrap64,dcl_get h2,get_nth (l:=R),get_int h3,h6,e2,h7]
  exact rnd_next (j + 1) (by simp [e3]) (by omega) (by omega)
 ·obtain rfl:j = R.length:=by omega
  rw [List.take_of_length_le (by omega)]
  simpa using hK _
noncomputable abbrev s1v (us:List Un) (ss:List Us) (R:List (List Int)) (release:Int) (fd:Bool) (best:Option (List Int)) (x:Int) (a:List Nat) (o:Option (List V)) (G:List GObj):St :=
 ⟨[(0,uns us),(1,sts ss),(3,i64 release),(11,rls R),(13,.bool fd),(14,rb best),(15,.lptr 15 0),(16,.lref 53 1 R.length),(26,i64 x)],(15,rv us ss best) :: (53,dcl a) :: ob o,[],G⟩
theorem r19_l1 {R:List (List Int)} {a:List Nat} {us:List Un} {ss:List Us} {release:Int} {fd:Bool} {best:Option (List Int)} {o:Option (List V)} {G:List GObj} {K:Post} (hn:R.length ≤ 6) (ha:Vd (R.map List.length) a) (hlen:∀ o ∈ R,o.length ≤ 1000)
  (h0:∀ z b,inc (R.map List.length) a = none → K (.exit 4) { s1v us ss R release fd best (-1) b o G with env:=(s1v us ss R release fd best (-1) b o G).env ++ [(124,z)] })
  (h1:∀ z (i:Nat),i < R.length → nth a i + 1 < nth (R.map List.length) i → inc (R.map List.length) a = some (a.take i ++ (nth a i + 1) :: List.replicate (R.length - 1 - i) 0) →
   K (.exit 4) { s1v us ss R release fd best i (a.take (i + 1) ++ List.replicate (R.length - 1 - i) 0) o G with env:=(s1v us ss R release fd best i a o G).env ++ [(124,z)] }) :
  go (Lim F) v_r19_Best_l1 (s1v us ss R release fd best (R.length - 1) a o G) K:=by
 have hal:=vd_len ha
 simp only [List.length_map] at hal
 refine go_loop (fun k:Nat => s1v us ss R release fd best (k - 1) (a.take k ++ List.replicate (R.length - k) 0) o G)
  (fun k => k ≤ R.length ∧ ∀ j,k ≤ j → j < R.length → nth a j + 1 = nth (R.map List.length) j) (fun k => k) R.length rfl (by rw [List.take_of_length_le (by omega)];simp) ⟨by omega,by omega⟩ ?_
 rintro k ⟨hk,hm⟩
 by_cases hk0:k = 0
 ·subst hk0
  simp +contextual (disch:=omega) [-getElem?_pos,-List.length_eq_zero_iff,-Int.natCast_eq_zero,wrap64,v_r19_Best_b1]
  exact h0 _ _ (inc_none ha fun j hj => hm j (by omega) (by simpa using hj))
 ·have e1:0 ≤ (k:Int) - 1:=by omega
  have e2:((k:Int) - 1).toNat = k - 1:=by omega
  have h3:k - 1 < R.length:=by omega
  have h4:(dcl (a.take k ++ List.replicate (R.length - k) 0))[k - 1]? = some (i64 ((nth a (k - 1):Nat):Int)):=by
   rw [dcl_get (by simp;omega),nth_left (by simp;omega),nth_take (by omega)]
  have h5:=hlen _ (nth_mem h3)
  have h6:=vd_nth ha (k - 1) (by simpa using h3)
  rw [nth_map h3] at h6
  have h7:(dcl (a.take k ++ List.replicate (R.length - k) 0)).set (k - 1) (i64 0) = dcl (a.take (k - 1) ++ List.replicate (R.length - (k - 1)) 0):=by
   have:=dcl_set (a:=a.take k ++ List.replicate (R.length - k) 0) (i:=k - 1) (d:=0)
   rw [show (i64 ((0:Nat):Int)) = i64 0 from rfl] at this
   rw [this]
   congr 1
   obtain ⟨m,rfl⟩:∃ m,k = m + 1:=⟨k - 1,by omega⟩
   rw [take_snoc (show m < a.length by omega)]
   have hl:(a.take m).length = m:=by simp;omega
   rw [List.append_assoc,Nat.add_sub_cancel,List.set_append_right _ _ (by omega),hl,Nat.sub_self]
   simp only [List.singleton_append,List.set_cons_zero]
   rw [show R.length - m = (R.length - (m + 1)) + 1 by omega,List.replicate_succ]
  have h8:nth (R.map List.length) (k - 1) = (nth R (k - 1)).length:=nth_map h3
  simp +contextual (disch:=omega) [-getElem?_pos,-List.length_eq_zero_iff,-Int.natCast_eq_zero,wrap64,v_r19_Best_b1,e1,e2,h4,get_nth (l:=R)]
  refine cnd_dec (fun h9 => ?_) (fun h9 => ?_)
  ·have h10:k ≤ (dcl (a.take k ++ List.replicate (R.length - k) 0)).length:=by simp;omega
   simp +contextual (disch:=omega) [-getElem?_pos,-List.length_eq_zero_iff,-Int.natCast_eq_zero,wrap64,h10,h7]
   refine rnd_next (k - 1) ?_ ⟨by omega,fun j a1 a2 => ?_⟩ (by omega)
   ·rw [show (((k - 1:Nat)):Int) = (k:Int) - 1 by omega]
    simp
   ·rcases Nat.lt_or_ge j k with h11 | h11
    ·obtain rfl:j = k - 1:=by omega
     rw [h8];omega
    ·exact hm j h11 a2
  ·have hlt:nth a (k - 1) + 1 < nth (R.map List.length) (k - 1):=by rw [h8];omega
   have hi:=inc_at (i:=k - 1) ha (by simpa using h3) (fun j a1 a2 => hm j (by omega) (by simpa using a2)) hlt
   simp only [List.length_map] at hi
   have:=h1 (.bool (decide (((nth a (k - 1):Nat):Int) = ((nth R (k - 1)).length:Int) - 1))) (k - 1) h3 hlt hi
   rw [show (((k - 1:Nat)):Int) = (k:Int) - 1 by omega,show k - 1 + 1 = k by omega,show R.length - 1 - (k - 1) = R.length - k by omega] at this
   exact this
theorem orl_len {us:List Un} {ss:List Us} {g:Int} (h:us.length = ss.length):(orl us ss g).length = us.length:=by simp [orl,h]
theorem orl_cells (us:List Un) (ss:List Us) (g:Int):List.zipWith (ocell g) us ss = (orl us ss g).map fun o => [ints o]:=by
 rw [orl,List.map_zipWith]
theorem orl_all {us:List Un} {ss:List Us} {g:Int} (h:St0 us ss g) {o:List Int} (ho:o ∈ orl us ss g):(0 < o.length ∧ o.length ≤ 1000) ∧ ∀ q ∈ o,0 ≤ q ∧ q ≤ 1073741824:=by
 have hl:=h.len
 obtain ⟨i,hi,rfl⟩:=mem_nth ho
 rw [orl_len hl] at hi
 have e:nth (orl us ss g) i = optR (nth us i) (nth ss i) g:=nth_zip hi (by omega)
 rw [e]
 have h1:=optR_len (s:=nth ss i) (h.flows i hi)
 refine ⟨⟨opt_ne (h.valid i hi),by omega⟩,fun q hq => ?_⟩
 simp only [optR,List.mem_filter,decide_eq_true_eq] at hq
 exact can_range hq.2
noncomputable abbrev s2v (us:List Un) (ss:List Us) (R:List (List Int)) (release:Int) (best:Option (List Int)) (a:List Nat) (o:Option (List V)) (G:List GObj):St :=
 ⟨[(0,uns us),(1,sts ss),(3,i64 release),(11,rls R),(13,.bool best.isSome),(14,rb best),(15,.lptr 15 0),(16,.lref 53 1 R.length)],(15,rv us ss best) :: (53,dcl a) :: ob o,[],G⟩
theorem r19_l2 {R:List (List Int)} {us:List Un} {ss:List Us} {release:Int} {G:List GObj} {K:Post} (hn:R.length ≤ 6) (hun:us.length ≤ 6) (hRl:R.length = us.length) (hRa:∀ o ∈ R,(0 < o.length ∧ o.length ≤ 1000) ∧ ∀ q ∈ o,0 ≤ q ∧ q ≤ 1073741824)
  (hval:∀ a,Vd (R.map List.length) a → valO us ss (planA R a) = some ((planA R a).sum,pwF us (planA R a),stF ss (planA R a)))
  (hz:Vd (R.map List.length) (List.replicate R.length 0))
  (hK:∀ best b o z,Kn us ss R release (prodN (R.map List.length)) best → K (.exit 0) { s2v us ss R release best b o G with env:=(s2v us ss R release best b o G).env ++ [(26,i64 (-1)),(131,z)] }) :
  go (Lim F) v_r19_Best_l2 (s2v us ss R release none (List.replicate R.length 0) none G) K:=by
 refine go_loop (fun x:List Nat × Option (List Int) × Option (List V) => s2v us ss R release x.2.1 x.1 x.2.2 G) (fun x => Vd (R.map List.length) x.1 ∧ Kn us ss R release (rk (R.map List.length) x.1) x.2.1)
  (fun x => prodN (R.map List.length) - rk (R.map List.length) x.1) (List.replicate R.length 0,none,none) rfl (by simp [rb]) ⟨hz,by simp only [rk_zero];intro b _ h;omega⟩ ?_
 rintro ⟨a,best,o⟩ ⟨ha,hkn⟩
 simp only at ha hkn
 have hrk:=rk_lt ha
 have hal:=vd_len ha
 simp only [List.length_map] at hal
 have hpl:=planA_len hal
 have hsp:=inc_spec ha
 replace hkn:=kn_step ha hkn
 have hva:=hval a ha
 have hV:=c_r19_Value us ss (planA R a) (by omega) []
 rw [hva] at hV
 simp only [valV] at hV
 have hic:(List.replicate R.length [V.int .i64 0]).flatten = icells (List.replicate R.length 0):=by
  rw [icells];simp
 simp +contextual (disch:=omega) [-getElem?_pos,-List.length_eq_zero_iff,-Int.natCast_eq_zero,wrap64,v_r19_Best_b2,hic]
 refine r19_l0 hn ha (fun o ho => (hRa o ho).2) fun z => ?_
 simp +contextual (disch:=omega) [-getElem?_pos,-List.length_eq_zero_iff,-Int.natCast_eq_zero,wrap64,wrap64]
 refine cnd_dec (fun h1 => ?_) (fun h1 => ?_)
 ·have hrw:elsAll [none] (chunks 1 (icells (planA R a)) 0 R.length) = some ((planA R a).map fun n => [V.int .i64 n]):=icells_rows (by omega)
  cases best with
  | none =>
    have hnb:newB us ss release (planA R a) none = some (planA R a):=by simp [newB,h1]
    rw [hnb] at hkn
    simp +contextual (disch:=omega) [-getElem?_pos,-List.length_eq_zero_iff,-Int.natCast_eq_zero,wrap64,hrw,hV,rb,rv]
    refine r19_l1 (best:=some (planA R a)) (o:=none) (fd:=true) hn ha (fun o ho => (hRa o ho).1.2) (fun z b he => ?_) (fun z i hi hlt he => ?_)
    ·rw [he] at hsp
     simp only at hsp
     rw [hsp] at hkn
     simp +contextual (disch:=omega) [-getElem?_pos,-List.length_eq_zero_iff,-Int.natCast_eq_zero,wrap64,rb,rv]
     exact hK _ b none _ hkn
    ·rw [he] at hsp
     simp only at hsp
     rw [← hsp.2] at hkn
     have q1:(dcl (a.take (i + 1) ++ List.replicate (R.length - 1 - i) 0))[i]? = some (i64 ((nth a i:Nat):Int)):=by
      rw [dcl_get (by simp;omega),nth_left (by simp;omega),nth_take (by omega)]
     have q2:=vd_nth ha i (by simpa using hi)
     rw [nth_map hi] at q2
     have q3:=(hRa _ (nth_mem hi)).1.2
     have q7:¬(i:Int) < 0:=by omega
     have q4:i < a.length:=by omega
     have q5:(dcl (a.take (i + 1) ++ List.replicate (R.length - 1 - i) 0)).set i (i64 (((nth a i:Nat):Int) + 1)) = dcl (a.take i ++ (nth a i + 1) :: List.replicate (R.length - 1 - i) 0):=by
      have:=dcl_set (a:=a.take (i + 1) ++ List.replicate (R.length - 1 - i) 0) (i:=i) (d:=nth a i + 1)
      rw [show (i64 ((nth a i + 1:Nat):Int)) = i64 (((nth a i:Nat):Int) + 1) from rfl] at this
      rw [this,take_snoc q4,List.append_assoc,List.set_append_right _ _ (by simp;omega)]
      have:(a.take i).length = i:=by simp;omega
      rw [this,Nat.sub_self]
      rfl
     have q6:i < (dcl (a.take (i + 1) ++ List.replicate (R.length - 1 - i) 0)).length:=by simp;omega
     simp +contextual (disch:=omega) [-getElem?_pos,-List.length_eq_zero_iff,-Int.natCast_eq_zero,wrap64,q1,q5,q6,q7,rb,rv]
     exact rnd_next (a.take i ++ (nth a i + 1) :: List.replicate (R.length - 1 - i) 0,some (planA R a),none) (by simp [rb,rv]) ⟨hsp.1,hkn⟩ (by simp only;omega)
  | some E =>
    by_cases hbt:betP (pwF us (planA R a),stF ss (planA R a)) (pwF us E,stF ss E) (planA R a) E
    ·have hnb:newB us ss release (planA R a) (some E) = some (planA R a):=by simp [newB,h1,hbt]
     rw [hnb] at hkn
     have hB:=c_r19_Better (pwF us (planA R a),stF ss (planA R a)) (pwF us E,stF ss E) (planA R a) E (by omega) []
     rw [decide_eq_true hbt] at hB
     simp +contextual (disch:=omega) [-getElem?_pos,-List.length_eq_zero_iff,-Int.natCast_eq_zero,wrap64,hrw,hV,rb,rv,hB]
     refine r19_l1 (best:=some (planA R a)) (o:=none) (fd:=true) hn ha (fun o ho => (hRa o ho).1.2) (fun z b he => ?_) (fun z i hi hlt he => ?_)
     ·rw [he] at hsp
      simp only at hsp
      rw [hsp] at hkn
      simp +contextual (disch:=omega) [-getElem?_pos,-List.length_eq_zero_iff,-Int.natCast_eq_zero,wrap64,rb,rv]
      exact hK _ b none _ hkn
     ·rw [he] at hsp
      simp only at hsp
      rw [← hsp.2] at hkn
      have q1:(dcl (a.take (i + 1) ++ List.replicate (R.length - 1 - i) 0))[i]? = some (i64 ((nth a i:Nat):Int)):=by
       rw [dcl_get (by simp;omega),nth_left (by simp;omega),nth_take (by omega)]
      have q2:=vd_nth ha i (by simpa using hi)
      rw [nth_map hi] at q2
      have q3:=(hRa _ (nth_mem hi)).1.2
      have q7:¬(i:Int) < 0:=by omega
      have q4:i < a.length:=by omega
      have q5:(dcl (a.take (i + 1) ++ List.replicate (R.length - 1 - i) 0)).set i (i64 (((nth a i:Nat):Int) + 1)) = dcl (a.take i ++ (nth a i + 1) :: List.replicate (R.length - 1 - i) 0):=by
       have:=dcl_set (a:=a.take (i + 1) ++ List.replicate (R.length - 1 - i) 0) (i:=i) (d:=nth a i + 1)
       rw [show (i64 ((nth a i + 1:Nat):Int)) = i64 (((nth a i:Nat):Int) + 1) from rfl] at this
       rw [this,take_snoc q4,List.append_assoc,List.set_append_right _ _ (by simp;omega)]
       have:(a.take i).length = i:=by simp;omega
       rw [this,Nat.sub_self]
       rfl
      have q6:i < (dcl (a.take (i + 1) ++ List.replicate (R.length - 1 - i) 0)).length:=by simp;omega
      simp +contextual (disch:=omega) [-getElem?_pos,-List.length_eq_zero_iff,-Int.natCast_eq_zero,wrap64,q1,q5,q6,q7,rb,rv]
      exact rnd_next (a.take i ++ (nth a i + 1) :: List.replicate (R.length - 1 - i) 0,some (planA R a),none) (by simp [rb,rv]) ⟨hsp.1,hkn⟩ (by simp only;omega)
    ·have hnb:newB us ss release (planA R a) (some E) = some E:=by simp [newB,h1,hbt]
     rw [hnb] at hkn
     have hB:=c_r19_Better (pwF us (planA R a),stF ss (planA R a)) (pwF us E,stF ss E) (planA R a) E (by omega) []
     rw [decide_eq_false hbt] at hB
     simp +contextual (disch:=omega) [-getElem?_pos,-List.length_eq_zero_iff,-Int.natCast_eq_zero,wrap64,hrw,hV,rb,rv,hB]
     refine r19_l1 (best:=some E) (o:=none) (fd:=true) hn ha (fun o ho => (hRa o ho).1.2) (fun z b he => ?_) (fun z i hi hlt he => ?_)
     ·rw [he] at hsp
      simp only at hsp
      rw [hsp] at hkn
      simp +contextual (disch:=omega) [-getElem?_pos,-List.length_eq_zero_iff,-Int.natCast_eq_zero,wrap64,rb,rv]
      exact hK _ b none _ hkn
     ·rw [he] at hsp
      simp only at hsp
      rw [← hsp.2] at hkn
      have q1:(dcl (a.take (i + 1) ++ List.replicate (R.length - 1 - i) 0))[i]? = some (i64 ((nth a i:Nat):Int)):=by
       rw [dcl_get (by simp;omega),nth_left (by simp;omega),nth_take (by omega)]
      have q2:=vd_nth ha i (by simpa using hi)
      rw [nth_map hi] at q2
      have q3:=(hRa _ (nth_mem hi)).1.2
      have q7:¬(i:Int) < 0:=by omega
      have q4:i < a.length:=by omega
      have q5:(dcl (a.take (i + 1) ++ List.replicate (R.length - 1 - i) 0)).set i (i64 (((nth a i:Nat):Int) + 1)) = dcl (a.take i ++ (nth a i + 1) :: List.replicate (R.length - 1 - i) 0):=by
       have:=dcl_set (a:=a.take (i + 1) ++ List.replicate (R.length - 1 - i) 0) (i:=i) (d:=nth a i + 1)
       rw [show (i64 ((nth a i + 1:Nat):Int)) = i64 (((nth a i:Nat):Int) + 1) from rfl] at this
       rw [this,take_snoc q4,List.append_assoc,List.set_append_right _ _ (by simp;omega)]
       have:(a.take i).length = i:=by simp;omega
       rw [this,Nat.sub_self]
       rfl
      have q6:i < (dcl (a.take (i + 1) ++ List.replicate (R.length - 1 - i) 0)).length:=by simp;omega
      simp +contextual (disch:=omega) [-getElem?_pos,-List.length_eq_zero_iff,-Int.natCast_eq_zero,wrap64,q1,q5,q6,q7,rb,rv]
      exact rnd_next (a.take i ++ (nth a i + 1) :: List.replicate (R.length - 1 - i) 0,some E,none) (by simp [rb,rv]) ⟨hsp.1,hkn⟩ (by simp only;omega)
 ·have hnb:newB us ss release (planA R a) best = best:=by
   cases best with
   | none => simp [newB,h1]
   | some F => simp [newB,h1]
  rw [hnb] at hkn
  refine r19_l1 (best:=best) (o:=(some (icells (planA R a)))) (fd:=best.isSome) hn ha (fun o ho => (hRa o ho).1.2) (fun z b he => ?_) (fun z i hi hlt he => ?_)
  ·rw [he] at hsp
   simp only at hsp
   rw [hsp] at hkn
   simp +contextual (disch:=omega) [-getElem?_pos,-List.length_eq_zero_iff,-Int.natCast_eq_zero,wrap64,rb_men]
   exact hK _ b (some (icells (planA R a))) _ hkn
  ·rw [he] at hsp
   simp only at hsp
   rw [← hsp.2] at hkn
   have q1:(dcl (a.take (i + 1) ++ List.replicate (R.length - 1 - i) 0))[i]? = some (i64 ((nth a i:Nat):Int)):=by
    rw [dcl_get (by simp;omega),nth_left (by simp;omega),nth_take (by omega)]
   have q2:=vd_nth ha i (by simpa using hi)
   rw [nth_map hi] at q2
   have q3:=(hRa _ (nth_mem hi)).1.2
   have q7:¬(i:Int) < 0:=by omega
   have q4:i < a.length:=by omega
   have q5:(dcl (a.take (i + 1) ++ List.replicate (R.length - 1 - i) 0)).set i (i64 (((nth a i:Nat):Int) + 1)) = dcl (a.take i ++ (nth a i + 1) :: List.replicate (R.length - 1 - i) 0):=by
    have:=dcl_set (a:=a.take (i + 1) ++ List.replicate (R.length - 1 - i) 0) (i:=i) (d:=nth a i + 1)
    rw [show (i64 ((nth a i + 1:Nat):Int)) = i64 (((nth a i:Nat):Int) + 1) from rfl] at this
    rw [this,take_snoc q4,List.append_assoc,List.set_append_right _ _ (by simp;omega)]
    have:(a.take i).length = i:=by simp;omega
    rw [this,Nat.sub_self]
    rfl
   have q6:i < (dcl (a.take (i + 1) ++ List.replicate (R.length - 1 - i) 0)).length:=by simp;omega
   simp +contextual (disch:=omega) [-getElem?_pos,-List.length_eq_zero_iff,-Int.natCast_eq_zero,wrap64,q1,q5,q6,q7,rb_men]
   exact rnd_next (a.take i ++ (nth a i + 1) :: List.replicate (R.length - 1 - i) 0,best,(some (icells (planA R a)))) (by simp [rb_men]) ⟨hsp.1,hkn⟩ (by simp only;omega)
theorem c_r19_Best (us:List Un) (ss:List Us) (g release:Int) (G:List GObj):∃ t,Lim F 94 [uns us,sts ss,i64 g,i64 release] G = some (.tuple [.slice t 1 ((bestL us ss g release).map fun n => [i64 n]),i64 (bestE us ss g release)],G):=by
 suffices h:∀ Q:V → Prop,(∀ t,Q (.tuple [.slice t 1 ((bestL us ss g release).map fun n => [i64 n]),i64 (bestE us ss g release)])) → Ret (Lim F) 94 [uns us,sts ss,i64 g,i64 release] G fun v G' => Q v ∧ G' = G by
  obtain ⟨_,_,h,⟨t,rfl⟩,rfl⟩:=h (fun v => ∃ t,v = .tuple [.slice t 1 ((bestL us ss g release).map fun n => [i64 n]),i64 (bestE us ss g release)]) fun t => ⟨t,rfl⟩
  exact ⟨t,h⟩
 intro Q hQ
 refine ret_of rfl rfl ?_
 have hwr:=c_r19_wrong us ss g []
 by_cases hw:wrE us ss g = 0
 ·obtain ⟨w1,w2,w3,w4⟩:us.length ≤ 6 ∧ us.length = ss.length ∧ allV us ss ∧ (1 ≤ g ∧ g ≤ 1073741824):=by
   unfold wrE at hw
   split at hw
   ·cases hw
   ·split at hw
    ·cases hw
    ·split at hw
     ·cases hw
     ·split at hw
      ·cases hw
      ·rename_i a1 a2 a3 a4
       exact ⟨by omega,Decidable.of_not_not a2,Decidable.of_not_not a3,by omega⟩
  have est:stE us ss g release = if g < 1 ∨ 1073741824 < g ∨ release < 0 ∨ 1073741824 < release then 1 else if 200 * g < release then 10 else if ¬allF us g then 10 else 0:=by
   unfold stE
   rw [if_neg (by omega),if_neg (fun h => h w2),if_neg (fun h => h w3)]
  by_cases hr:release < 0 ∨ 1073741824 < release
  ·rw [if_pos (by omega)] at est
   have eL:bestL us ss g release = []:=by simp [bestL,est]
   have eE:bestE us ss g release = 1:=by simp [bestE,est]
   rw [eL,eE] at hQ
   have h8:(!decide (0 ≤ release) || !decide (release ≤ 1073741824)) = true:=by simp;omega
   simp +contextual (disch:=omega) [-getElem?_pos,-List.length_eq_zero_iff,-Int.natCast_eq_zero,wrap64,v_r19_Best,hwr,hw,c_r01_In,h8]
   exact hQ _
  ·rw [if_neg (by omega)] at est
   have h8:(!decide (0 ≤ release) || !decide (release ≤ 1073741824)) = false:=by simp;omega
   by_cases h9:200 * g < release
   ·rw [if_pos h9] at est
    have eL:bestL us ss g release = []:=by simp [bestL,est]
    have eE:bestE us ss g release = 10:=by simp [bestE,est]
    rw [eL,eE] at hQ
    simp +contextual (disch:=omega) [-getElem?_pos,-List.length_eq_zero_iff,-Int.natCast_eq_zero,wrap64,v_r19_Best,hwr,hw,c_r01_In,h8,h9]
    exact hQ _
   ·rw [if_neg h9] at est
    have hA:=c_r19_all w2 (by omega) w3 g []
    by_cases hF:allF us g
    ·rw [if_neg (fun h => h hF)] at est
     have hE:allE us g = 0:=by simp [allE,hF]
     rw [hE,if_pos rfl,orl_cells] at hA
     have h0:=(st0_of est).1
     have hbo:=best_of h0 (left:=release) (by omega)
     have eL:bestL us ss g release = (recF (lls us ss g) release).getD []:=by simp [bestL,est]
     have eE:bestE us ss g release = if recF (lls us ss g) release = none then 9 else 0:=by simp [bestE,est]
     have hRl:=orl_len (g:=g) w2
     have hRa:=fun o (ho:o ∈ orl us ss g) => orl_all h0 ho
     have hval:∀ a,Vd ((orl us ss g).map List.length) a → valO us ss (planA (orl us ss g) a) = some ((planA (orl us ss g) a).sum,pwF us (planA (orl us ss g) a),stF ss (planA (orl us ss g) a)):=fun a ha => valO_feas ((feasR_iff w2).1 (planA_feas ha))
     have hendN:Kn us ss (orl us ss g) release (prodN ((orl us ss g).map List.length)) none → ∀ F,feas g us ss F → release < F.sum:=kn_end (g:=g) w2
     have hendS:∀ F,Kn us ss (orl us ss g) release (prodN ((orl us ss g).map List.length)) (some F) → Best g us ss release F:=fun F => kn_end (g:=g) w2
     generalize hR:orl us ss g = R at *
     have hz:Vd (R.map List.length) (List.replicate R.length 0):=by
      have:=vd_zero (ns:=R.map List.length) fun n hn => by
       obtain ⟨o,ho,rfl⟩:=List.mem_map.1 hn
       exact (hRa o ho).1.1
      simpa using this
     simp +contextual (disch:=omega) [-getElem?_pos,-List.length_eq_zero_iff,-Int.natCast_eq_zero,wrap64,v_r19_Best,hwr,hw,c_r01_In,h8,h9,hA]
     have hic:List.replicate R.length (V.int .i64 0) = dcl (List.replicate R.length 0):=by simp [dcl,icells]
     rw [hic]
     refine r19_l2 (us:=us) (ss:=ss) (release:=release) (by omega) w1 hRl hRa hval hz fun best b o z hkn => ?_
     cases best with
     | none =>
       have hb:=hendN hkn
       have hno:recF (lls us ss g) release = none:=by
        cases hc:recF (lls us ss g) release with
        | none => rfl
        | some F =>
          rw [hc] at hbo
          have:=hb F hbo.feas
          have:=hbo.sum
          omega
       rw [eL,eE,hno] at hQ
       simp only [if_true,Option.getD_none] at hQ
       simp +contextual (disch:=omega) [-getElem?_pos,-List.length_eq_zero_iff,-Int.natCast_eq_zero,wrap64,rb]
       exact hQ _
     | some F =>
       have hb:=hendS F hkn
       have hso:recF (lls us ss g) release = some F:=by
        cases hc:recF (lls us ss g) release with
        | none =>
          rw [hc] at hbo
          have:=hbo F hb.feas
          have:=hb.sum
          omega
        | some E =>
          rw [hc] at hbo
          rw [Best.unique hbo hb]
       rw [eL,eE,hso] at hQ
       simp only [Option.getD_some,reduceCtorEq,if_false] at hQ
       simp +contextual (disch:=omega) [-getElem?_pos,-List.length_eq_zero_iff,-Int.natCast_eq_zero,wrap64,rb]
       exact hQ _
    ·rw [if_pos hF] at est
     have hE:allE us g = 10:=by simp [allE,hF]
     have eL:bestL us ss g release = []:=by simp [bestL,est]
     have eE:bestE us ss g release = 10:=by simp [bestE,est]
     rw [hE,if_neg (by omega)] at hA
     rw [eL,eE] at hQ
     simp +contextual (disch:=omega) [-getElem?_pos,-List.length_eq_zero_iff,-Int.natCast_eq_zero,wrap64,v_r19_Best,hwr,hw,c_r01_In,h8,h9,hA]
     exact hQ _
 ·have est:stE us ss g release = wrE us ss g:=by
   unfold wrE at hw ⊢
   unfold stE
   split
   ·rfl
   ·split
    ·rfl
    ·split
     ·rfl
     ·rename_i a1 a2 a3
      simp only [a1,a2,a3,if_false] at hw
      split at hw
      ·rw [if_pos (by omega),if_pos (by assumption)]
      ·exact absurd rfl hw
  have est2:¬stE us ss g release = 0:=by rw [est];exact hw
  have eL:bestL us ss g release = []:=by simp [bestL,est2]
  have eE:bestE us ss g release = wrE us ss g:=by simp [bestE,est,hw]
  rw [eL,eE] at hQ
  simp +contextual (disch:=omega) [-getElem?_pos,-List.length_eq_zero_iff,-Int.natCast_eq_zero,wrap64,v_r19_Best,hwr,hw]
  exact hQ _
end Go.Proofs.YtfjdfnegookkcaaGreat
namespace Go.Proofs.YtfjdfnegookkcaaGreat
set_option linter.all false
open Go.Vm
noncomputable def loU (g:Int) (u:Un) (s:Us):Int:=nth (chs u s g) 0
noncomputable def hiU (g:Int) (u:Un) (s:Us):Int:=nth (chs u s g) ((chs u s g).length - 1)
noncomputable def loS (g:Int) (us:List Un) (ss:List Us):Int:=(List.zipWith (loU g) us ss).sum
noncomputable def hiS (g:Int) (us:List Un) (ss:List Us):Int:=(List.zipWith (hiU g) us ss).sum
theorem chs_ne {u:Un} {s:Us} {g:Int} (hv:validP u s):0 < (chs u s g).length:=by
 obtain ⟨q,hq⟩:=List.exists_mem_of_length_pos (opt_ne (g:=g) hv)
 exact List.length_pos_of_mem (mem_optR.1 hq)
theorem up_nth {l:List Int} (h:l.Pairwise (· < ·)):∀ {i j:Nat},i < j → j < l.length → nth l i < nth l j:=by
 intro i j hij hj
 have:=List.pairwise_iff_getElem.1 h i j (by omega) hj hij
 simpa [nth,hj,show i < l.length by omega] using this
theorem lo_le {u:Un} {s:Us} {g q:Int} (h:q ∈ chs u s g):loU g u s ≤ q ∧ q ≤ hiU g u s:=by
 obtain ⟨i,hi,rfl⟩:=mem_nth h
 unfold loU hiU
 constructor
 ·rcases Nat.eq_zero_or_pos i with rfl | h1
  ·omega
  ·exact Int.le_of_lt (up_nth chs_up h1 hi)
 ·rcases Nat.lt_or_ge i ((chs u s g).length - 1) with h1 | h1
  ·exact Int.le_of_lt (up_nth chs_up h1 (by omega))
  ·rw [show i = (chs u s g).length - 1 by omega];omega
theorem lo_mem {u:Un} {s:Us} {g:Int} (hv:validP u s):loU g u s ∈ chs u s g ∧ hiU g u s ∈ chs u s g:=by
 have:=chs_ne (g:=g) hv
 exact ⟨nth_mem this,nth_mem (by omega)⟩
theorem lo_range {u:Un} {s:Us} {g:Int} (hv:validP u s):(0 ≤ loU g u s ∧ loU g u s ≤ 1073741824) ∧ 0 ≤ hiU g u s ∧ hiU g u s ≤ 1073741824:=by
 obtain ⟨h1,h2⟩:=lo_mem (g:=g) hv
 exact ⟨can_range (mem_chs.1 h1).2,can_range (mem_chs.1 h2).2⟩
theorem zs_range {us:List Un} {ss:List Us} {f:Un → Us → Int} (hl:us.length = ss.length) (h:∀ i,i < us.length → 0 ≤ f (nth us i) (nth ss i) ∧ f (nth us i) (nth ss i) ≤ 1073741824) (j:Nat) (hj:j ≤ us.length) :
  0 ≤ ((List.zipWith f us ss).take j).sum ∧ ((List.zipWith f us ss).take j).sum ≤ 1073741824 * j:=by
 refine sum_take (fun x hx => ?_) j (by simp;omega)
 obtain ⟨i,hi,rfl⟩:=mem_nth hx
 simp at hi
 rw [nth_zip (by omega) (by omega)]
 exact h i (by omega)
noncomputable def rngE (us:List Un) (ss:List Us) (g:Int):Int:=stE us ss g 0
noncomputable def rngV (us:List Un) (ss:List Us) (g:Int):V:=.tuple [.agg (if rngE us ss g = 0 then [i64 (loS g us ss),i64 (hiS g us ss)] else [i64 0,i64 0]),i64 (rngE us ss g)]
end Go.Proofs.YtfjdfnegookkcaaGreat
