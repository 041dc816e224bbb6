/- Parts of the proof, joined: Gat1, Gat2, Gat3, Gat4, Gat5, Gat6, Gat7, Gat8. -/
import Derived.Test.YtfjdfnegookkcaaGreatDc
import Derived.Test.YtfjdfnegookkcaaGreatDa
namespace Go.Proofs.YtfjdfnegookkcaaGreat
set_option linter.all false
open Go.Vm
attribute [local simp] cond_yes cond_yes2 int_beq int_bne
structure Rt where
 lv:Int
 c:List Pt
 deriving Inhabited
abbrev Rt.row (r:Rt):List V:=[i64 r.lv,pts r.c]
abbrev rts (l:List Rt):V:=.slice none 2 (l.map Rt.row)
structure Gt where
 r:List Rt
 most:Int
 move:Int
 deriving Inhabited
abbrev Gt.row (g:Gt):List V:=[rts g.r,i64 g.most,i64 g.move]
abbrev gt (g:Gt):V:=.agg g.row
def rAt (l:List Rt) (i:Nat):Int :=
 if ¬(0 ≤ (nth l i).lv ∧ (nth l i).lv ≤ 16777216) then 1
 else if 0 < i ∧ (nth l i).lv ≤ (nth l (i - 1)).lv then 4
 else if cChk (nth l i).c ≠ 0 then cChk (nth l i).c
 else if ¬((nth (nth l i).c 0).x = 0 ∧ (nth (nth l i).c 0).y = 0) then 3
 else if 1073741824 < (nth (nth l i).c ((nth l i).c.length - 1)).y then 1 else 0
def gChk (g:Gt):Int :=
 if g.r.length = 0 then 3 else if 10 < g.r.length then 10 else if fsE (rAt g.r) g.r.length 0 ≠ 0 then fsE (rAt g.r) g.r.length 0
 else if ¬((0 ≤ g.most ∧ g.most ≤ 1000) ∧ 0 ≤ g.move ∧ g.move ≤ 1000) then 1 else 0
theorem c_gate_Check (g:Gt) (G:List GObj):Lim F 48 [gt g] G = some (i64 (gChk g),G) :=
 eq_of rfl rfl (by
  obtain ⟨l,most,move⟩:=g
  generalize hW:gChk ⟨l,most,move⟩ = W
  unfold gChk at hW
  simp only at hW
  simp +contextual (disch:=omega) [-getElem?_pos,-List.length_eq_zero_iff,-Int.natCast_eq_zero,wrap64,v_gate_Check]
  refine cnd_dec (fun h1 => ?_) (fun h1 => cnd_dec (fun h2 => ?_) (fun h2 => ?_))
  ·rw [if_pos (by omega)] at hW
   exact hW
  ·rw [if_neg (by omega),if_pos (by omega)] at hW
   exact hW
  ·rw [if_neg (by omega),if_neg (by omega)] at hW
   refine go_loop (fun i:Nat => v_gate_Check_s0 (rts l) l.length i [rts l,i64 most,i64 move] G) (fun i => i ≤ l.length ∧ fsE (rAt l) (l.length - i) i = fsE (rAt l) l.length 0) (fun i => l.length - i) 0 rfl (by simp) ⟨by omega,rfl⟩ ?_
   rintro i ⟨hi,hq⟩
   simp +contextual (disch:=omega) [-getElem?_pos,-List.length_eq_zero_iff,-Int.natCast_eq_zero,wrap64,v_gate_Check_b0]
   refine cnd_dec (fun h3 => ?_) (fun h3 => ?_)
   ·have h3:i < l.length:=by omega
    have h4:((i:Int) - 1).toNat = i - 1:=by omega
    rw [fsE_step h3] at hq
    have stop:rAt l i ≠ 0 → W = rAt l i:=fun h => by
     rw [if_neg h] at hq
     rw [← hq,if_pos h] at hW
     exact hW.symm
    unfold rAt at stop
    by_cases a1:0 ≤ (nth l i).lv ∧ (nth l i).lv ≤ 16777216
    ·have a2:(!decide (0 ≤ (nth l i).lv) || !decide ((nth l i).lv ≤ 16777216)) = false:=by simp;omega
     have a3:0 < i → 0 ≤ (i:Int) - 1:=by omega
     have a4:i - 1 < l.length:=by omega
     rw [if_neg (by omega)] at stop
     by_cases b1:0 < i ∧ (nth l i).lv ≤ (nth l (i - 1)).lv
     ·rw [if_pos b1] at stop
      have b2:0 < i:=b1.1
      have b3:=b1.2
      have b4:0 ≤ (i:Int) - 1:=by omega
      simp +contextual (disch:=omega) [-getElem?_pos,-List.length_eq_zero_iff,-Int.natCast_eq_zero,wrap64,get_nth (l:=l),h3,c_quantity_Within,c_r01_In,a2,b2,b3,b4,h4,a4]
      exact (stop (by omega)).symm
     ·rw [if_neg b1] at stop
      by_cases c1:cChk (nth l i).c = 0
      ·rw [if_neg (by omega)] at stop
       have hp:=cv_pos c1
       have hfw:=(cv_of c1).few
       have c2:(((nth l i).c.length:Int) - 1).toNat = (nth l i).c.length - 1:=by omega
       have c3:(nth l i).c.length - 1 < (nth l i).c.length:=by omega
       have c4:0 ≤ ((nth l i).c.length:Int) - 1:=by omega
       by_cases d1:(nth (nth l i).c 0).x = 0 ∧ (nth (nth l i).c 0).y = 0
       ·rw [if_neg (by omega)] at stop
        obtain ⟨d2,d3⟩:=d1
        by_cases e1:1073741824 < (nth (nth l i).c ((nth l i).c.length - 1)).y
        ·rw [if_pos e1] at stop
         rcases Nat.eq_zero_or_pos i with b6 | b6
         ·subst b6
          simp +contextual (disch:=omega) [-getElem?_pos,-List.length_eq_zero_iff,-Int.natCast_eq_zero,wrap64,get_nth (l:=l),h3,c_quantity_Within,c_r01_In,c_curve_Check,c_r02_Check,a2,c1,V.aeq,eqCells,eqCell,get_nth (l:=(nth l 0).c),hp,c2,c3,c4,d2,d3,e1]
          exact (stop (by omega)).symm
         ·have b7:¬ (nth l i).lv ≤ (nth l (i - 1)).lv:=fun h => b1 ⟨b6,h⟩
          have b4:0 ≤ (i:Int) - 1:=by omega
          simp +contextual (disch:=omega) [-getElem?_pos,-List.length_eq_zero_iff,-Int.natCast_eq_zero,wrap64,get_nth (l:=l),h3,c_quantity_Within,c_r01_In,c_curve_Check,c_r02_Check,a2,c1,b6,b7,b4,h4,a4,V.aeq,eqCells,eqCell,get_nth (l:=(nth l i).c),hp,c2,c3,c4,d2,d3,e1]
          exact (stop (by omega)).symm
        ·have hz:rAt l i = 0:=by
          unfold rAt
          rw [if_neg (by omega),if_neg b1,if_neg (by omega),if_neg (by omega),if_neg e1]
         rw [if_pos hz] at hq
         rcases Nat.eq_zero_or_pos i with b6 | b6
         ·subst b6
          simp +contextual (disch:=omega) [-getElem?_pos,-List.length_eq_zero_iff,-Int.natCast_eq_zero,wrap64,get_nth (l:=l),h3,c_quantity_Within,c_r01_In,c_curve_Check,c_r02_Check,a2,c1,V.aeq,eqCells,eqCell,get_nth (l:=(nth l 0).c),hp,c2,c3,c4,d2,d3,e1]
          exact rnd_next (0 + 1) (by simp) ⟨by omega,hq⟩ (by omega)
         ·have b7:¬ (nth l i).lv ≤ (nth l (i - 1)).lv:=fun h => b1 ⟨b6,h⟩
          have b4:0 ≤ (i:Int) - 1:=by omega
          simp +contextual (disch:=omega) [-getElem?_pos,-List.length_eq_zero_iff,-Int.natCast_eq_zero,wrap64,get_nth (l:=l),h3,c_quantity_Within,c_r01_In,c_curve_Check,c_r02_Check,a2,c1,b6,b7,b4,h4,a4,V.aeq,eqCells,eqCell,get_nth (l:=(nth l i).c),hp,c2,c3,c4,d2,d3,e1]
          exact rnd_next (i + 1) (by simp) ⟨by omega,hq⟩ (by omega)
       ·rw [if_pos d1] at stop
        have d4:(decide ((nth (nth l i).c 0).x = 0) && decide ((nth (nth l i).c 0).y = 0)) = false:=by simpa using d1
        have d5:((nth (nth l i).c 0).x == 0 && (nth (nth l i).c 0).y == 0) = false:=by simpa using d1
        rcases Nat.eq_zero_or_pos i with b6 | b6
        ·subst b6
         simp +contextual (disch:=omega) [-getElem?_pos,-List.length_eq_zero_iff,-Int.natCast_eq_zero,wrap64,get_nth (l:=l),h3,c_quantity_Within,c_r01_In,c_curve_Check,c_r02_Check,a2,c1,V.aeq,eqCells,eqCell,get_nth (l:=(nth l 0).c),hp,d4,d5]
         exact (stop (by omega)).symm
        ·have b7:¬ (nth l i).lv ≤ (nth l (i - 1)).lv:=fun h => b1 ⟨b6,h⟩
         have b4:0 ≤ (i:Int) - 1:=by omega
         simp +contextual (disch:=omega) [-getElem?_pos,-List.length_eq_zero_iff,-Int.natCast_eq_zero,wrap64,get_nth (l:=l),h3,c_quantity_Within,c_r01_In,c_curve_Check,c_r02_Check,a2,c1,b6,b7,b4,h4,a4,V.aeq,eqCells,eqCell,get_nth (l:=(nth l i).c),hp,d4,d5]
         exact (stop (by omega)).symm
      ·rw [if_pos c1] at stop
       rcases Nat.eq_zero_or_pos i with b6 | b6
       ·subst b6
        simp +contextual (disch:=omega) [-getElem?_pos,-List.length_eq_zero_iff,-Int.natCast_eq_zero,wrap64,get_nth (l:=l),h3,c_quantity_Within,c_r01_In,c_curve_Check,c_r02_Check,a2,c1,c1]
        exact (stop (by omega)).symm
       ·have b7:¬ (nth l i).lv ≤ (nth l (i - 1)).lv:=fun h => b1 ⟨b6,h⟩
        have b4:0 ≤ (i:Int) - 1:=by omega
        simp +contextual (disch:=omega) [-getElem?_pos,-List.length_eq_zero_iff,-Int.natCast_eq_zero,wrap64,get_nth (l:=l),h3,c_quantity_Within,c_r01_In,c_curve_Check,c_r02_Check,a2,c1,b6,b7,b4,h4,a4,c1]
        exact (stop (by omega)).symm
    ·rw [if_pos a1] at stop
     have a2:(!decide (0 ≤ (nth l i).lv) || !decide ((nth l i).lv ≤ 16777216)) = true:=by simp;omega
     simp +contextual (disch:=omega) [-getElem?_pos,-List.length_eq_zero_iff,-Int.natCast_eq_zero,wrap64,get_nth (l:=l),h3,c_quantity_Within,c_r01_In,a2]
     exact (stop (by omega)).symm
   ·obtain rfl:i = l.length:=by omega
    rw [fsE_end] at hq
    rw [← hq,if_neg (by omega)] at hW
    by_cases m1:0 ≤ most ∧ most ≤ 1000
    ·have m2:(!decide (0 ≤ most) || !decide (most ≤ 1000)) = false:=by simp;omega
     by_cases m3:0 ≤ move ∧ move ≤ 1000
     ·have m4:(!decide (0 ≤ move) || !decide (move ≤ 1000)) = false:=by simp;omega
      rw [if_neg (by omega)] at hW
      simp +contextual (disch:=omega) [-getElem?_pos,-List.length_eq_zero_iff,-Int.natCast_eq_zero,wrap64,c_quantity_Within,c_r01_In,m2,m4]
      exact hW
     ·have m4:(!decide (0 ≤ move) || !decide (move ≤ 1000)) = true:=by simp;omega
      rw [if_pos (by omega)] at hW
      simp +contextual (disch:=omega) [-getElem?_pos,-List.length_eq_zero_iff,-Int.natCast_eq_zero,wrap64,c_quantity_Within,c_r01_In,m2,m4]
      exact hW
    ·have m2:(!decide (0 ≤ most) || !decide (most ≤ 1000)) = true:=by simp;omega
     rw [if_pos (by omega)] at hW
     simp +contextual (disch:=omega) [-getElem?_pos,-List.length_eq_zero_iff,-Int.natCast_eq_zero,wrap64,c_quantity_Within,c_r01_In,m2]
     exact hW)
theorem c_r20_Check (g:Gt) (G:List GObj):Lim F 51 [gt g] G = some (i64 (gChk g),G) :=
 eq_of rfl rfl (by
  obtain ⟨l,most,move⟩:=g
  generalize hW:gChk ⟨l,most,move⟩ = W
  unfold gChk at hW
  simp only at hW
  simp +contextual (disch:=omega) [-getElem?_pos,-List.length_eq_zero_iff,-Int.natCast_eq_zero,wrap64,v_r20_Check]
  refine cnd_dec (fun h1 => ?_) (fun h1 => cnd_dec (fun h2 => ?_) (fun h2 => ?_))
  ·rw [if_pos (by omega)] at hW
   exact hW
  ·rw [if_neg (by omega),if_pos (by omega)] at hW
   exact hW
  ·rw [if_neg (by omega),if_neg (by omega)] at hW
   refine go_loop (fun i:Nat => v_r20_Check_s0 (rts l) l.length i [rts l,i64 most,i64 move] G) (fun i => i ≤ l.length ∧ fsE (rAt l) (l.length - i) i = fsE (rAt l) l.length 0) (fun i => l.length - i) 0 rfl (by simp) ⟨by omega,rfl⟩ ?_
   rintro i ⟨hi,hq⟩
   simp +contextual (disch:=omega) [-getElem?_pos,-List.length_eq_zero_iff,-Int.natCast_eq_zero,wrap64,v_r20_Check_b0]
   refine cnd_dec (fun h3 => ?_) (fun h3 => ?_)
   ·have h3:i < l.length:=by omega
    have h4:((i:Int) - 1).toNat = i - 1:=by omega
    rw [fsE_step h3] at hq
    have stop:rAt l i ≠ 0 → W = rAt l i:=fun h => by
     rw [if_neg h] at hq
     rw [← hq,if_pos h] at hW
     exact hW.symm
    unfold rAt at stop
    by_cases a1:0 ≤ (nth l i).lv ∧ (nth l i).lv ≤ 16777216
    ·have a2:(!decide (0 ≤ (nth l i).lv) || !decide ((nth l i).lv ≤ 16777216)) = false:=by simp;omega
     have a3:0 < i → 0 ≤ (i:Int) - 1:=by omega
     have a4:i - 1 < l.length:=by omega
     rw [if_neg (by omega)] at stop
     by_cases b1:0 < i ∧ (nth l i).lv ≤ (nth l (i - 1)).lv
     ·rw [if_pos b1] at stop
      have b2:0 < i:=b1.1
      have b3:=b1.2
      have b4:0 ≤ (i:Int) - 1:=by omega
      simp +contextual (disch:=omega) [-getElem?_pos,-List.length_eq_zero_iff,-Int.natCast_eq_zero,wrap64,get_nth (l:=l),h3,c_quantity_Within,c_r01_In,a2,b2,b3,b4,h4,a4]
      exact (stop (by omega)).symm
     ·rw [if_neg b1] at stop
      by_cases c1:cChk (nth l i).c = 0
      ·rw [if_neg (by omega)] at stop
       have hp:=cv_pos c1
       have hfw:=(cv_of c1).few
       have c2:(((nth l i).c.length:Int) - 1).toNat = (nth l i).c.length - 1:=by omega
       have c3:(nth l i).c.length - 1 < (nth l i).c.length:=by omega
       have c4:0 ≤ ((nth l i).c.length:Int) - 1:=by omega
       by_cases d1:(nth (nth l i).c 0).x = 0 ∧ (nth (nth l i).c 0).y = 0
       ·rw [if_neg (by omega)] at stop
        obtain ⟨d2,d3⟩:=d1
        by_cases e1:1073741824 < (nth (nth l i).c ((nth l i).c.length - 1)).y
        ·rw [if_pos e1] at stop
         rcases Nat.eq_zero_or_pos i with b6 | b6
         ·subst b6
          simp +contextual (disch:=omega) [-getElem?_pos,-List.length_eq_zero_iff,-Int.natCast_eq_zero,wrap64,get_nth (l:=l),h3,c_quantity_Within,c_r01_In,c_curve_Check,c_r02_Check,a2,c1,V.aeq,eqCells,eqCell,get_nth (l:=(nth l 0).c),hp,c2,c3,c4,d2,d3,e1]
          exact (stop (by omega)).symm
         ·have b7:¬ (nth l i).lv ≤ (nth l (i - 1)).lv:=fun h => b1 ⟨b6,h⟩
          have b4:0 ≤ (i:Int) - 1:=by omega
          simp +contextual (disch:=omega) [-getElem?_pos,-List.length_eq_zero_iff,-Int.natCast_eq_zero,wrap64,get_nth (l:=l),h3,c_quantity_Within,c_r01_In,c_curve_Check,c_r02_Check,a2,c1,b6,b7,b4,h4,a4,V.aeq,eqCells,eqCell,get_nth (l:=(nth l i).c),hp,c2,c3,c4,d2,d3,e1]
          exact (stop (by omega)).symm
        ·have hz:rAt l i = 0:=by
          unfold rAt
          rw [if_neg (by omega),if_neg b1,if_neg (by omega),if_neg (by omega),if_neg e1]
         rw [if_pos hz] at hq
         rcases Nat.eq_zero_or_pos i with b6 | b6
         ·subst b6
          simp +contextual (disch:=omega) [-getElem?_pos,-List.length_eq_zero_iff,-Int.natCast_eq_zero,wrap64,get_nth (l:=l),h3,c_quantity_Within,c_r01_In,c_curve_Check,c_r02_Check,a2,c1,V.aeq,eqCells,eqCell,get_nth (l:=(nth l 0).c),hp,c2,c3,c4,d2,d3,e1]
          exact rnd_next (0 + 1) (by simp) ⟨by omega,hq⟩ (by omega)
         ·have b7:¬ (nth l i).lv ≤ (nth l (i - 1)).lv:=fun h => b1 ⟨b6,h⟩
          have b4:0 ≤ (i:Int) - 1:=by omega
          simp +contextual (disch:=omega) [-getElem?_pos,-List.length_eq_zero_iff,-Int.natCast_eq_zero,wrap64,get_nth (l:=l),h3,c_quantity_Within,c_r01_In,c_curve_Check,c_r02_Check,a2,c1,b6,b7,b4,h4,a4,V.aeq,eqCells,eqCell,get_nth (l:=(nth l i).c),hp,c2,c3,c4,d2,d3,e1]
          exact rnd_next (i + 1) (by simp) ⟨by omega,hq⟩ (by omega)
       ·rw [if_pos d1] at stop
        have d4:(decide ((nth (nth l i).c 0).x = 0) && decide ((nth (nth l i).c 0).y = 0)) = false:=by simpa using d1
        have d5:((nth (nth l i).c 0).x == 0 && (nth (nth l i).c 0).y == 0) = false:=by simpa using d1
        rcases Nat.eq_zero_or_pos i with b6 | b6
        ·subst b6
         simp +contextual (disch:=omega) [-getElem?_pos,-List.length_eq_zero_iff,-Int.natCast_eq_zero,wrap64,get_nth (l:=l),h3,c_quantity_Within,c_r01_In,c_curve_Check,c_r02_Check,a2,c1,V.aeq,eqCells,eqCell,get_nth (l:=(nth l 0).c),hp,d4,d5]
         exact (stop (by omega)).symm
        ·have b7:¬ (nth l i).lv ≤ (nth l (i - 1)).lv:=fun h => b1 ⟨b6,h⟩
         have b4:0 ≤ (i:Int) - 1:=by omega
         simp +contextual (disch:=omega) [-getElem?_pos,-List.length_eq_zero_iff,-Int.natCast_eq_zero,wrap64,get_nth (l:=l),h3,c_quantity_Within,c_r01_In,c_curve_Check,c_r02_Check,a2,c1,b6,b7,b4,h4,a4,V.aeq,eqCells,eqCell,get_nth (l:=(nth l i).c),hp,d4,d5]
         exact (stop (by omega)).symm
      ·rw [if_pos c1] at stop
       rcases Nat.eq_zero_or_pos i with b6 | b6
       ·subst b6
        simp +contextual (disch:=omega) [-getElem?_pos,-List.length_eq_zero_iff,-Int.natCast_eq_zero,wrap64,get_nth (l:=l),h3,c_quantity_Within,c_r01_In,c_curve_Check,c_r02_Check,a2,c1,c1]
        exact (stop (by omega)).symm
       ·have b7:¬ (nth l i).lv ≤ (nth l (i - 1)).lv:=fun h => b1 ⟨b6,h⟩
        have b4:0 ≤ (i:Int) - 1:=by omega
        simp +contextual (disch:=omega) [-getElem?_pos,-List.length_eq_zero_iff,-Int.natCast_eq_zero,wrap64,get_nth (l:=l),h3,c_quantity_Within,c_r01_In,c_curve_Check,c_r02_Check,a2,c1,b6,b7,b4,h4,a4,c1]
        exact (stop (by omega)).symm
    ·rw [if_pos a1] at stop
     have a2:(!decide (0 ≤ (nth l i).lv) || !decide ((nth l i).lv ≤ 16777216)) = true:=by simp;omega
     simp +contextual (disch:=omega) [-getElem?_pos,-List.length_eq_zero_iff,-Int.natCast_eq_zero,wrap64,get_nth (l:=l),h3,c_quantity_Within,c_r01_In,a2]
     exact (stop (by omega)).symm
   ·obtain rfl:i = l.length:=by omega
    rw [fsE_end] at hq
    rw [← hq,if_neg (by omega)] at hW
    by_cases m1:0 ≤ most ∧ most ≤ 1000
    ·have m2:(!decide (0 ≤ most) || !decide (most ≤ 1000)) = false:=by simp;omega
     by_cases m3:0 ≤ move ∧ move ≤ 1000
     ·have m4:(!decide (0 ≤ move) || !decide (move ≤ 1000)) = false:=by simp;omega
      rw [if_neg (by omega)] at hW
      simp +contextual (disch:=omega) [-getElem?_pos,-List.length_eq_zero_iff,-Int.natCast_eq_zero,wrap64,c_quantity_Within,c_r01_In,m2,m4]
      exact hW
     ·have m4:(!decide (0 ≤ move) || !decide (move ≤ 1000)) = true:=by simp;omega
      rw [if_pos (by omega)] at hW
      simp +contextual (disch:=omega) [-getElem?_pos,-List.length_eq_zero_iff,-Int.natCast_eq_zero,wrap64,c_quantity_Within,c_r01_In,m2,m4]
      exact hW
    ·have m2:(!decide (0 ≤ most) || !decide (most ≤ 1000)) = true:=by simp;omega
     rw [if_pos (by omega)] at hW
     simp +contextual (disch:=omega) [-getElem?_pos,-List.length_eq_zero_iff,-Int.natCast_eq_zero,wrap64,c_quantity_Within,c_r01_In,m2]
     exact hW)
end Go.Proofs.YtfjdfnegookkcaaGreat
namespace Go.Proofs.YtfjdfnegookkcaaGreat
set_option linter.all false
open Go.Vm
attribute [local simp] cond_yes cond_yes2 int_beq int_bne
structure Gs where
 o:Int
 j:Bool
 deriving Inhabited,DecidableEq
abbrev Gs.row (s:Gs):List V:=[i64 s.o,.bool s.j]
abbrev gs (s:Gs):V:=.agg s.row
abbrev gts (l:List Gt):V:=.slice none 3 (l.map Gt.row)
abbrev gss (l:List Gs):V:=.slice none 2 (l.map Gs.row)
def curO (l:List Rt) (lv:Int):Option (List Pt):=l.foldl (fun a r => if r.lv ≤ lv then some r.c else a) none
def gcur (l:List Rt) (lv:Int):List Pt:=(curO l lv).getD []
theorem curO_snoc {l:List Rt} {r:Rt} {lv:Int}:curO (l ++ [r]) lv = if r.lv ≤ lv then some r.c else curO l lv:=by
 simp [curO,List.foldl_append]
def cuV:Option (List Pt) → V
 | none => .nils
 | some c => pts c
@[simp] theorem cuV_men0 {o:Option (List Pt)} {d:Nat}:(cuV o).men0 d = false:=by cases o <;> rfl
@[simp] theorem cuV_cell {o:Option (List Pt)}:(cuV o).isCell = true:=by cases o <;> rfl
def cfl (c:List Pt) (o:Int):Int:=if c.length = 0 then 0 else cval c o
structure Gv (g:Gt):Prop where
 cur:∀ i,i < g.r.length → cChk (nth g.r i).c = 0
 top:∀ i,i < g.r.length → (nth (nth g.r i).c ((nth g.r i).c.length - 1)).y ≤ 1073741824
 bot:∀ i,i < g.r.length → (nth (nth g.r i).c 0).x = 0 ∧ (nth (nth g.r i).c 0).y = 0
 few:0 < g.r.length ∧ g.r.length ≤ 10
 most:0 ≤ g.most ∧ g.most ≤ 1000
 move:0 ≤ g.move ∧ g.move ≤ 1000
theorem gv_of {g:Gt} (h:gChk g = 0):Gv g:=by
 unfold gChk at h
 split at h
 ·cases h
 split at h
 ·cases h
 split at h
 ·rename_i h3;exact absurd h h3
 split at h
 ·cases h
 rename_i h1 h2 h3 h4
 have h3:fsE (rAt g.r) g.r.length 0 = 0:=Decidable.of_not_not h3
 have at_:∀ i,i < g.r.length → cChk (nth g.r i).c = 0 ∧ ((nth (nth g.r i).c 0).x = 0 ∧ (nth (nth g.r i).c 0).y = 0) ∧ (nth (nth g.r i).c ((nth g.r i).c.length - 1)).y ≤ 1073741824:=fun i hi => by
  have:=fsE_all h3 i (by omega) (by omega)
  unfold rAt at this
  split at this
  ·cases this
  split at this
  ·cases this
  split at this
  ·rename_i h5;exact absurd this h5
  split at this
  ·cases this
  split at this
  ·cases this
  rename_i h5 h6 h7
  exact ⟨Decidable.of_not_not h5,Decidable.of_not_not h6,by omega⟩
 exact ⟨fun i hi => (at_ i hi).1,fun i hi => (at_ i hi).2.2,fun i hi => (at_ i hi).2.1,by omega,by omega,by omega⟩
theorem gcur_ok {P:List Pt → Prop} {l:List Rt} {lv:Int} (h:∀ i,i < l.length → P (nth l i).c):gcur l lv = [] ∨ P (gcur l lv):=by
 have key:∀ k,k ≤ l.length → ∀ c,curO (l.take k) lv = some c → P c:=by
  intro k
  induction k with
  | zero => intro _ c hc;simp [curO] at hc
  | succ k ih =>
    intro hk c hc
    rw [take_snoc (by omega),curO_snoc] at hc
    split at hc
    ·cases hc;exact h k (by omega)
    ·exact ih (by omega) c hc
 have:=key l.length (Nat.le_refl _)
 rw [List.take_length] at this
 unfold gcur
 cases hc:curO l lv with
 | none => exact .inl rfl
 | some c => exact .inr (this c hc)
theorem c_gate_at {g:Gt} (hv:Gv g) (lv:Int) (G:List GObj):∃ t,Lim F 85 [gt g,i64 lv] G = some (.agg [.slice t 2 ((gcur g.r lv).map Pt.row),i64 0],G):=by
 suffices h:∀ Q:V → List GObj → Prop,(∀ t,Q (.agg [.slice t 2 ((gcur g.r lv).map Pt.row),i64 0]) G) → Ret (Lim F) 85 [gt g,i64 lv] G Q by
  obtain ⟨_,_,h,t,rfl,rfl⟩:=h (fun v G' => ∃ t,v = .agg [.slice t 2 ((gcur g.r lv).map Pt.row),i64 0] ∧ G' = G) fun t => ⟨t,rfl,rfl⟩
  exact ⟨t,h⟩
 intro Q hQ
 obtain ⟨l,most,move⟩:=g
 have hfew:=hv.few
 simp only at hfew
 refine ret_of rfl rfl ?_
 simp +contextual (disch:=omega) [-getElem?_pos,-List.length_eq_zero_iff,-Int.natCast_eq_zero,wrap64,v_gate_at]
 refine go_loop (fun i:Nat => v_gate_at_s0 lv (rts l) l.length i [.nils,i64 0] [cuV (curO (l.take i) lv),i64 0] G) (fun i => i ≤ l.length) (fun i => l.length - i) 0 rfl (by simp [curO,cuV]) (by omega) ?_
 rintro i hi
 simp +contextual (disch:=omega) [-getElem?_pos,-List.length_eq_zero_iff,-Int.natCast_eq_zero,wrap64,v_gate_at_b0]
 refine cnd_dec (fun h3 => ?_) (fun h3 => ?_)
 ·have h3:i < l.length:=by omega
  by_cases h4:(nth l i).lv ≤ lv
  ·simp +contextual (disch:=omega) [-getElem?_pos,-List.length_eq_zero_iff,-Int.natCast_eq_zero,wrap64,get_nth (l:=l),h3,h4]
   refine rnd_next (i + 1) (by simp [take_snoc h3,curO_snoc,h4,cuV]) (by omega) (by omega)
  ·simp +contextual (disch:=omega) [-getElem?_pos,-List.length_eq_zero_iff,-Int.natCast_eq_zero,wrap64,get_nth (l:=l),h3,h4]
   refine rnd_next (i + 1) (by simp [take_snoc h3,curO_snoc,h4,cuV]) (by omega) (by omega)
 ·obtain rfl:i = l.length:=by omega
  rw [List.take_length]
  cases hc:curO l lv with
  | none =>
    simp only [gcur,hc] at hQ
    simp +contextual (disch:=omega) [-getElem?_pos,-List.length_eq_zero_iff,-Int.natCast_eq_zero,wrap64,cuV]
    exact hQ _
  | some c =>
    simp only [gcur,hc] at hQ
    simp +contextual (disch:=omega) [-getElem?_pos,-List.length_eq_zero_iff,-Int.natCast_eq_zero,wrap64,cuV]
    exact hQ _
theorem c_view_flow {c:List Pt} (h:c = [] ∨ cChk c = 0) (w o:Int) (G:List GObj):Lim F 87 [.agg [pts c,i64 w],i64 o] G = some (i64 (cfl c o),G) :=
 eq_of rfl rfl (by
  rcases h with rfl | h
  ·simp +contextual (disch:=omega) [-getElem?_pos,-List.length_eq_zero_iff,-Int.natCast_eq_zero,wrap64,v_gate_view_flow,cfl]
  ·have hp:=cv_pos h
   have h1:¬ c.length = 0:=by omega
   have h2:¬ (c.length:Int) = 0:=by omega
   simp +contextual (disch:=omega) [-getElem?_pos,-List.length_eq_zero_iff,-Int.natCast_eq_zero,wrap64,v_gate_view_flow,cfl,c_curve_Value (cv_of h),h1,h2])
theorem c_view_enough {c:List Pt} (h:c = [] ∨ cChk c = 0) (w o:Int) (G:List GObj):Lim F 115 [.agg [pts c,i64 w],i64 o] G = some (.bool (decide (w ≤ cfl c o)),G) :=
 eq_of rfl rfl (by
  simp +contextual (disch:=omega) [-getElem?_pos,-List.length_eq_zero_iff,-Int.natCast_eq_zero,wrap64,v_gate_view_enough,c_view_flow h])
def gfl (g:Gt) (o lv:Int):Int:=cfl (gcur g.r lv) o
theorem c_r20_flow {g:Gt} (h:Gv g) (o lv:Int) (G:List GObj):Lim F 110 [gt g,i64 o,i64 lv] G = some (i64 (gfl g o lv),G) :=
 eq_of rfl rfl (by
  obtain ⟨l,most,move⟩:=g
  have hcur:=h.cur
  have hfew:=h.few
  simp only at hcur hfew
  generalize hW:gfl ⟨l,most,move⟩ o lv = W
  unfold gfl gcur at hW
  simp only at hW
  simp +contextual (disch:=omega) [-getElem?_pos,-List.length_eq_zero_iff,-Int.natCast_eq_zero,wrap64,v_r20_flow]
  refine go_loop (fun i:Nat => v_r20_flow_s0 o lv (cfl ((curO (l.take i) lv).getD []) o) (rts l) l.length i G) (fun i => i ≤ l.length) (fun i => l.length - i) 0 rfl (by simp [curO,cfl]) (by omega) ?_
  rintro i hi
  simp +contextual (disch:=omega) [-getElem?_pos,-List.length_eq_zero_iff,-Int.natCast_eq_zero,wrap64,v_r20_flow_b0]
  refine cnd_dec (fun h3 => ?_) (fun h3 => ?_)
  ·have h3:i < l.length:=by omega
   have hp:=cv_pos (hcur i h3)
   have hn:¬ (nth l i).c = []:=fun e => by rw [e] at hp;simp at hp
   by_cases h4:(nth l i).lv ≤ lv
   ·simp +contextual (disch:=omega) [-getElem?_pos,-List.length_eq_zero_iff,-Int.natCast_eq_zero,wrap64,get_nth (l:=l),h3,h4,c_r02_At,hcur]
    refine rnd_next (i + 1) (by simp [take_snoc h3,curO_snoc,h4,cfl,hn]) (by omega) (by omega)
   ·simp +contextual (disch:=omega) [-getElem?_pos,-List.length_eq_zero_iff,-Int.natCast_eq_zero,wrap64,get_nth (l:=l),h3,h4]
    refine rnd_next (i + 1) (by simp [take_snoc h3,curO_snoc,h4]) (by omega) (by omega)
  ·obtain rfl:i = l.length:=by omega
   rw [List.take_length]
   simp +contextual (disch:=omega) [-getElem?_pos,-List.length_eq_zero_iff,-Int.natCast_eq_zero,wrap64,hW])
def gvP (g:Gt) (s:Gs):Prop:=0 ≤ s.o ∧ s.o ≤ g.most
instance {g:Gt} {s:Gs}:Decidable (gvP g s):=inferInstanceAs (Decidable (_ ∧ _))
def rch (g:Gt) (s:Gs):Bd:=if s.j then ⟨s.o,s.o⟩ else ⟨max (s.o - g.move) 0,min (s.o + g.move) g.most⟩
theorem c_gate_reach {g:Gt} {s:Gs} (h:Gv g) (hs:gvP g s) (G:List GObj):Lim F 86 [gt g,gs s] G = some (.agg (rch g s).row,G) :=
 eq_of rfl rfl (by
  obtain ⟨l,most,move⟩:=g
  obtain ⟨o,j⟩:=s
  have h1:=h.most
  have h2:=h.move
  have h3:=hs.1
  have h4:=hs.2
  simp only at h1 h2 h3 h4
  cases j with
  | true => simp +contextual (disch:=omega) [-getElem?_pos,-List.length_eq_zero_iff,-Int.natCast_eq_zero,wrap64,v_gate_reach,rch]
  | false =>
    have e1:max (0:Int) (o - move) = max (o - move) 0:=Int.max_comm _ _
    have e2:min most (o + move) = min (o + move) most:=Int.min_comm _ _
    simp +contextual (disch:=omega) [-getElem?_pos,-List.length_eq_zero_iff,-Int.natCast_eq_zero,wrap64,v_gate_reach,rch,e1,e2])
theorem c_r20_reach {g:Gt} {s:Gs} (h:Gv g) (hs:gvP g s) (G:List GObj):Lim F 109 [gt g,gs s] G = some (.agg (rch g s).row,G) :=
 eq_of rfl rfl (by
  obtain ⟨l,most,move⟩:=g
  obtain ⟨o,j⟩:=s
  have h1:=h.most
  have h2:=h.move
  have h3:=hs.1
  have h4:=hs.2
  simp only at h1 h2 h3 h4
  cases j with
  | true => simp +contextual (disch:=omega) [-getElem?_pos,-List.length_eq_zero_iff,-Int.natCast_eq_zero,wrap64,v_r20_reach,rch]
  | false =>
    have e1:max (0:Int) (o - move) = max (o - move) 0:=Int.max_comm _ _
    have e2:min most (o + move) = min (o + move) most:=Int.min_comm _ _
    simp +contextual (disch:=omega) [-getElem?_pos,-List.length_eq_zero_iff,-Int.natCast_eq_zero,wrap64,v_r20_reach,rch,e1,e2])
theorem c_gate_valid (g:Gt) (s:Gs) (G:List GObj):Lim F 107 [gt g,gs s] G = some (.bool (decide (gvP g s)),G) :=
 eq_of rfl rfl (by
  simp +contextual (disch:=omega) [-getElem?_pos,-List.length_eq_zero_iff,-Int.natCast_eq_zero,wrap64,v_gate_valid,v_r20_Valid,c_quantity_Within,c_r01_In,gvP]
  by_cases h1:0 ≤ s.o <;> by_cases h2:s.o ≤ g.most <;> simp [h1,h2])
theorem c_r20_Valid (g:Gt) (s:Gs) (G:List GObj):Lim F 45 [gt g,gs s] G = some (.bool (decide (gvP g s)),G) :=
 eq_of rfl rfl (by
  simp +contextual (disch:=omega) [-getElem?_pos,-List.length_eq_zero_iff,-Int.natCast_eq_zero,wrap64,v_gate_valid,v_r20_Valid,c_quantity_Within,c_r01_In,gvP]
  by_cases h1:0 ≤ s.o <;> by_cases h2:s.o ≤ g.most <;> simp [h1,h2])
def allG (g:List Gt) (s:List Gs):Prop:=∀ i,i < g.length → gvP (nth g i) (nth s i)
noncomputable instance {g:List Gt} {s:List Gs}:Decidable (allG g s):=Classical.propDecidable _
noncomputable def aE (g:List Gt) (s:List Gs) (lv:Int):Int :=
 if 8 < g.length then 10 else if g.length ≠ s.length then 3 else if ¬allG g s then 3
 else if fsE (fun i => gChk (nth g i)) g.length 0 ≠ 0 then fsE (fun i => gChk (nth g i)) g.length 0 else if ¬(0 ≤ lv ∧ lv ≤ 16777216) then 1 else 0
theorem c_gate_asked (g:List Gt) (s:List Gs) (lv:Int) (G:List GObj):Lim F 84 [gts g,gss s,i64 lv] G = some (i64 (aE g s lv),G) :=
 eq_of rfl rfl (by
  generalize hW:aE g s lv = W
  unfold aE at hW
  simp +contextual (disch:=omega) [-getElem?_pos,-List.length_eq_zero_iff,-Int.natCast_eq_zero,wrap64,v_gate_asked,v_r20_wrong]
  refine cnd_dec (fun h1 => ?_) (fun h1 => cnd_bool (fun h2 => ?_) (fun h2 => ?_))
  ·rw [if_pos (by omega)] at hW
   exact hW
  ·simp [-List.length_eq_zero_iff,-Int.natCast_eq_zero] at h2
   rw [if_neg (by omega),if_pos (by omega)] at hW
   exact hW
  ·simp [-List.length_eq_zero_iff,-Int.natCast_eq_zero] at h2
   rw [if_neg (by omega),if_neg (by omega)] at hW
   have hl:g.length = s.length:=by omega
   refine go_loop (fun i:Nat => v_gate_asked_s0 (gts g) (gss s) lv (gts g) g.length i G) (fun i => i ≤ g.length ∧ ∀ j,j < i → gvP (nth g j) (nth s j)) (fun i => g.length - i) 0 rfl (by simp) ⟨by omega,by omega⟩ ?_
   rintro i ⟨hi,hv⟩
   simp +contextual (disch:=omega) [-getElem?_pos,-List.length_eq_zero_iff,-Int.natCast_eq_zero,wrap64,v_gate_asked_b0]
   refine cnd_dec (fun h3 => ?_) (fun h3 => ?_)
   ·have h3:i < g.length:=by omega
    by_cases h4:gvP (nth g i) (nth s i)
    ·simp +contextual (disch:=omega) [-getElem?_pos,-List.length_eq_zero_iff,-Int.natCast_eq_zero,wrap64,get_nth (l:=g),get_nth (l:=s),c_gate_valid,c_r20_Valid,h4]
     refine rnd_next (i + 1) (by simp) ⟨by omega,fun j hj => ?_⟩ (by omega)
     rcases Nat.lt_or_ge j i with h5 | h5
     ·exact hv j h5
     ·rwa [show j = i by omega]
    ·rw [if_pos (fun h => h4 (h i h3))] at hW
     simp +contextual (disch:=omega) [-getElem?_pos,-List.length_eq_zero_iff,-Int.natCast_eq_zero,wrap64,get_nth (l:=g),get_nth (l:=s),c_gate_valid,c_r20_Valid,h4]
     exact hW
   ·obtain rfl:i = g.length:=by omega
    rw [if_neg (fun h => h hv)] at hW
    refine go_loop (fun i:Nat => v_gate_asked_s1 lv (gts g) g.length i G) (fun i => i ≤ g.length ∧ fsE (fun i => gChk (nth g i)) (g.length - i) i = fsE (fun i => gChk (nth g i)) g.length 0) (fun i => g.length - i) 0 rfl (by simp) ⟨by omega,rfl⟩ ?_
    rintro i ⟨hi,hq⟩
    simp +contextual (disch:=omega) [-getElem?_pos,-List.length_eq_zero_iff,-Int.natCast_eq_zero,wrap64,v_gate_asked_b1]
    refine cnd_dec (fun h3 => ?_) (fun h3 => ?_)
    ·have h3:i < g.length:=by omega
     rw [fsE_step h3] at hq
     by_cases h4:gChk (nth g i) = 0
     ·rw [if_pos h4] at hq
      simp +contextual (disch:=omega) [-getElem?_pos,-List.length_eq_zero_iff,-Int.natCast_eq_zero,wrap64,get_nth (l:=g),c_gate_Check,c_r20_Check,h4]
      exact rnd_next (i + 1) (by simp) ⟨by omega,hq⟩ (by omega)
     ·rw [if_neg h4] at hq
      rw [← hq,if_pos h4] at hW
      simp +contextual (disch:=omega) [-getElem?_pos,-List.length_eq_zero_iff,-Int.natCast_eq_zero,wrap64,get_nth (l:=g),c_gate_Check,c_r20_Check,h4]
      exact hW
    ·obtain rfl:i = g.length:=by omega
     rw [fsE_end] at hq
     rw [← hq,if_neg (by omega)] at hW
     by_cases m1:0 ≤ lv ∧ lv ≤ 16777216
     ·have m2:(!decide (0 ≤ lv) || !decide (lv ≤ 16777216)) = false:=by simp;omega
      rw [if_neg (by omega)] at hW
      simp +contextual (disch:=omega) [-getElem?_pos,-List.length_eq_zero_iff,-Int.natCast_eq_zero,wrap64,c_quantity_Within,c_r01_In,m2]
      exact hW
     ·have m2:(!decide (0 ≤ lv) || !decide (lv ≤ 16777216)) = true:=by simp;omega
      rw [if_pos (by omega)] at hW
      simp +contextual (disch:=omega) [-getElem?_pos,-List.length_eq_zero_iff,-Int.natCast_eq_zero,wrap64,c_quantity_Within,c_r01_In,m2]
      exact hW)
theorem c_r20_wrong (g:List Gt) (s:List Gs) (lv:Int) (G:List GObj):Lim F 89 [gts g,gss s,i64 lv] G = some (i64 (aE g s lv),G) :=
 eq_of rfl rfl (by
  generalize hW:aE g s lv = W
  unfold aE at hW
  simp +contextual (disch:=omega) [-getElem?_pos,-List.length_eq_zero_iff,-Int.natCast_eq_zero,wrap64,v_gate_asked,v_r20_wrong]
  refine cnd_dec (fun h1 => ?_) (fun h1 => cnd_bool (fun h2 => ?_) (fun h2 => ?_))
  ·rw [if_pos (by omega)] at hW
   exact hW
  ·simp [-List.length_eq_zero_iff,-Int.natCast_eq_zero] at h2
   rw [if_neg (by omega),if_pos (by omega)] at hW
   exact hW
  ·simp [-List.length_eq_zero_iff,-Int.natCast_eq_zero] at h2
   rw [if_neg (by omega),if_neg (by omega)] at hW
   have hl:g.length = s.length:=by omega
   refine go_loop (fun i:Nat => v_r20_wrong_s0 (gts g) (gss s) lv (gts g) g.length i G) (fun i => i ≤ g.length ∧ ∀ j,j < i → gvP (nth g j) (nth s j)) (fun i => g.length - i) 0 rfl (by simp) ⟨by omega,by omega⟩ ?_
   rintro i ⟨hi,hv⟩
   simp +contextual (disch:=omega) [-getElem?_pos,-List.length_eq_zero_iff,-Int.natCast_eq_zero,wrap64,v_r20_wrong_b0]
   refine cnd_dec (fun h3 => ?_) (fun h3 => ?_)
   ·have h3:i < g.length:=by omega
    by_cases h4:gvP (nth g i) (nth s i)
    ·simp +contextual (disch:=omega) [-getElem?_pos,-List.length_eq_zero_iff,-Int.natCast_eq_zero,wrap64,get_nth (l:=g),get_nth (l:=s),c_gate_valid,c_r20_Valid,h4]
     refine rnd_next (i + 1) (by simp) ⟨by omega,fun j hj => ?_⟩ (by omega)
     rcases Nat.lt_or_ge j i with h5 | h5
     ·exact hv j h5
     ·rwa [show j = i by omega]
    ·rw [if_pos (fun h => h4 (h i h3))] at hW
     simp +contextual (disch:=omega) [-getElem?_pos,-List.length_eq_zero_iff,-Int.natCast_eq_zero,wrap64,get_nth (l:=g),get_nth (l:=s),c_gate_valid,c_r20_Valid,h4]
     exact hW
   ·obtain rfl:i = g.length:=by omega
    rw [if_neg (fun h => h hv)] at hW
    refine go_loop (fun i:Nat => v_r20_wrong_s1 lv (gts g) g.length i G) (fun i => i ≤ g.length ∧ fsE (fun i => gChk (nth g i)) (g.length - i) i = fsE (fun i => gChk (nth g i)) g.length 0) (fun i => g.length - i) 0 rfl (by simp) ⟨by omega,rfl⟩ ?_
    rintro i ⟨hi,hq⟩
    simp +contextual (disch:=omega) [-getElem?_pos,-List.length_eq_zero_iff,-Int.natCast_eq_zero,wrap64,v_r20_wrong_b1]
    refine cnd_dec (fun h3 => ?_) (fun h3 => ?_)
    ·have h3:i < g.length:=by omega
     rw [fsE_step h3] at hq
     by_cases h4:gChk (nth g i) = 0
     ·rw [if_pos h4] at hq
      simp +contextual (disch:=omega) [-getElem?_pos,-List.length_eq_zero_iff,-Int.natCast_eq_zero,wrap64,get_nth (l:=g),c_gate_Check,c_r20_Check,h4]
      exact rnd_next (i + 1) (by simp) ⟨by omega,hq⟩ (by omega)
     ·rw [if_neg h4] at hq
      rw [← hq,if_pos h4] at hW
      simp +contextual (disch:=omega) [-getElem?_pos,-List.length_eq_zero_iff,-Int.natCast_eq_zero,wrap64,get_nth (l:=g),c_gate_Check,c_r20_Check,h4]
      exact hW
    ·obtain rfl:i = g.length:=by omega
     rw [fsE_end] at hq
     rw [← hq,if_neg (by omega)] at hW
     by_cases m1:0 ≤ lv ∧ lv ≤ 16777216
     ·have m2:(!decide (0 ≤ lv) || !decide (lv ≤ 16777216)) = false:=by simp;omega
      rw [if_neg (by omega)] at hW
      simp +contextual (disch:=omega) [-getElem?_pos,-List.length_eq_zero_iff,-Int.natCast_eq_zero,wrap64,c_quantity_Within,c_r01_In,m2]
      exact hW
     ·have m2:(!decide (0 ≤ lv) || !decide (lv ≤ 16777216)) = true:=by simp;omega
      rw [if_pos (by omega)] at hW
      simp +contextual (disch:=omega) [-getElem?_pos,-List.length_eq_zero_iff,-Int.natCast_eq_zero,wrap64,c_quantity_Within,c_r01_In,m2]
      exact hW)
end Go.Proofs.YtfjdfnegookkcaaGreat
namespace Go.Proofs.YtfjdfnegookkcaaGreat
set_option linter.all false
open Go.Vm
attribute [local simp] cond_yes cond_yes2 int_beq int_bne
theorem ipol_at {c:List Pt} {i:Nat}:ipol c i (nth c (i - 1)).x = (nth c (i - 1)).y:=by simp [ipol]
theorem cval_le_at {c:List Pt} (h:Cv c) {k:Nat} (hk:k < c.length) {x:Int} (hx:x ≤ (nth c k).x):cval c x ≤ (nth c k).y:=by
 rcases cv_cases h x with h1 | ⟨i,a,b,d,e⟩ | h1
 ·rw [cval_first h h1];exact h.le (by omega) hk
 ·rw [cval_mid h a b d e]
  have h2:=ipol_nums h a b d e
  rcases Nat.lt_or_ge k i with h3 | h3
  ·rcases Nat.lt_or_ge k (i - 1) with h4 | h4
   ·have:=h.lt h4 (by omega);omega
   ·obtain rfl:k = i - 1:=by omega
    have:x = (nth c (i - 1)).x:=by omega
    rw [this,ipol_at];omega
  ·have:=h.le h3 hk
   unfold ipol;omega
 ·have hp:=h.pos
  rcases Nat.lt_or_ge k (c.length - 1) with h4 | h4
  ·have:=h.lt h4 (by omega);omega
  ·obtain rfl:k = c.length - 1:=by omega
   rw [cval_last h h1];omega
theorem cval_mono {c:List Pt} (h:Cv c) {x x':Int} (hx:x ≤ x'):cval c x ≤ cval c x':=by
 rcases cv_cases h x' with h1 | ⟨i,a,b,d,e⟩ | h1
 ·rw [cval_first h h1,cval_first h (by omega)];omega
 ·by_cases h2:(nth c (i - 1)).x ≤ x
  ·rw [cval_mid h a b d e,cval_mid h a b h2 (by omega)]
   have h3:=h.up i a b
   have h4:=h.mono i a b
   unfold ipol
   have:=Int.tdiv_le_tdiv (a:=((nth c i).y - (nth c (i - 1)).y) * (x - (nth c (i - 1)).x)) (b:=((nth c i).y - (nth c (i - 1)).y) * (x' - (nth c (i - 1)).x)) (c:=(nth c i).x - (nth c (i - 1)).x) (by omega)
    (Int.mul_le_mul_of_nonneg_left (by omega) (by omega))
   omega
  ·have h5:=cval_le_at h (k:=i - 1) (by omega) (x:=x) (by omega)
   have h6:=ipol_nums h a b d e
   rw [cval_mid h a b d e]
   unfold ipol
   omega
 ·rw [cval_last h h1]
  exact (cval_range h x).2
theorem cfl_mono {c:List Pt} (h:c = [] ∨ cChk c = 0) {o o':Int} (ho:o ≤ o'):cfl c o ≤ cfl c o':=by
 rcases h with rfl | h
 ·simp [cfl]
 ·unfold cfl
  rw [if_neg (by have:=cv_pos h;omega),if_neg (by have:=cv_pos h;omega)]
  exact cval_mono (cv_of h) ho
theorem gcur_chk {g:Gt} (h:Gv g) (lv:Int):gcur g.r lv = [] ∨ cChk (gcur g.r lv) = 0:=gcur_ok (P:=fun c => cChk c = 0) h.cur
theorem gfl_mono {g:Gt} (h:Gv g) {lv o o':Int} (ho:o ≤ o'):gfl g o lv ≤ gfl g o' lv:=cfl_mono (gcur_chk h lv) ho
theorem gfl_range {g:Gt} (h:Gv g) (o lv:Int):0 ≤ gfl g o lv ∧ gfl g o lv ≤ 1073741824:=by
 unfold gfl cfl
 have h1:=gcur_ok (P:=fun c => cChk c = 0 ∧ (nth c (c.length - 1)).y ≤ 1073741824) (l:=g.r) (lv:=lv) (fun i hi => ⟨h.cur i hi,h.top i hi⟩)
 rcases h1 with h1 | ⟨h1,h2⟩
 ·rw [h1];simp
 ·rw [if_neg (by have:=cv_pos h1;omega)]
  have h3:=cval_range (cv_of h1) o
  have h4:=(cv_of h1).y0 0 (cv_pos h1)
  omega
theorem aE_zero {g:List Gt} {s:List Gs} {lv:Int} (h:aE g s lv = 0):g.length ≤ 8 ∧ g.length = s.length ∧ allG g s ∧ (∀ i,i < g.length → Gv (nth g i)) ∧ 0 ≤ lv ∧ lv ≤ 16777216:=by
 unfold aE at h
 split at h
 ·cases h
 split at h
 ·cases h
 split at h
 ·cases h
 split at h
 ·rename_i h1;exact absurd h h1
 split at h
 ·cases h
 rename_i h1 h2 h3 h4 h5
 have h4:=Decidable.of_not_not h4
 exact ⟨by omega,by omega,Decidable.of_not_not h3,fun i hi => gv_of (fsE_all h4 i (by omega) (by omega)),by omega⟩
def gsum (f:Gt → Gs → Int) (g:List Gt) (s:List Gs) (i:Nat):Int:=(List.zipWith f (g.take i) (s.take i)).sum
theorem gsum_zero {f:Gt → Gs → Int} {g:List Gt} {s:List Gs}:gsum f g s 0 = 0:=by simp [gsum]
theorem gsum_succ {f:Gt → Gs → Int} {g:List Gt} {s:List Gs} {i:Nat} (h1:i < g.length) (h2:i < s.length):gsum f g s (i + 1) = gsum f g s i + f (nth g i) (nth s i):=by
 unfold gsum
 rw [zip_snoc h1 h2,List.sum_append]
 simp
theorem gsum_range {f:Gt → Gs → Int} {g:List Gt} {s:List Gs} (hl:g.length = s.length) (h:∀ i,i < g.length → 0 ≤ f (nth g i) (nth s i) ∧ f (nth g i) (nth s i) ≤ 1073741824):∀ i,i ≤ g.length → 0 ≤ gsum f g s i ∧ gsum f g s i ≤ 1073741824 * i:=by
 intro i
 induction i with
 | zero => intro _;rw [gsum_zero];omega
 | succ i ih =>
   intro hi
   rw [gsum_succ (by omega) (by omega)]
   have:=ih (by omega)
   have:=h i (by omega)
   omega
def glo (lv:Int) (g:Gt) (s:Gs):Int:=gfl g (rch g s).lo lv
def ghi (lv:Int) (g:Gt) (s:Gs):Int:=gfl g (rch g s).hi lv
noncomputable def grV (g:List Gt) (s:List Gs) (lv:Int):V:=if aE g s lv = 0 then .tuple [.agg [i64 (gsum (glo lv) g s g.length),i64 (gsum (ghi lv) g s g.length)],i64 0] else .tuple [.agg [i64 0,i64 0],i64 (aE g s lv)]
theorem c_gate_Range (g:List Gt) (s:List Gs) (lv:Int) (G:List GObj):Lim F 58 [gts g,gss s,i64 lv] G = some (grV g s lv,G) :=
 eq_of rfl rfl (by
  generalize hW:grV g s lv = W
  unfold grV at hW
  by_cases he:aE g s lv = 0
  ·rw [if_pos he] at hW
   obtain ⟨h1,h2,h3,h4,h5⟩:=aE_zero he
   have r1:=gsum_range (f:=glo lv) h2 (fun i hi => gfl_range (h4 i hi) _ _)
   have r2:=gsum_range (f:=ghi lv) h2 (fun i hi => gfl_range (h4 i hi) _ _)
   simp +contextual (disch:=omega) [-getElem?_pos,-List.length_eq_zero_iff,-Int.natCast_eq_zero,wrap64,v_gate_Range,c_gate_asked,he]
   refine go_loop (fun i:Nat => v_gate_Range_s0 (gss s) lv (gts g) g.length i [i64 0,i64 0] [i64 (gsum (glo lv) g s i),i64 (gsum (ghi lv) g s i)] G) (fun i => i ≤ g.length) (fun i => g.length - i) 0 rfl (by simp [gsum_zero]) (by omega) ?_
   rintro i hi
   simp +contextual (disch:=omega) [-getElem?_pos,-List.length_eq_zero_iff,-Int.natCast_eq_zero,wrap64,v_gate_Range_b0]
   refine cnd_dec (fun h6 => ?_) (fun h6 => ?_)
   ·have h6:i < g.length:=by omega
    have h7:i < s.length:=by omega
    obtain ⟨t,ht⟩:=c_gate_at (h4 i h6) lv []
    have hr:=c_gate_reach (h4 i h6) (h3 i h6)
    have hf:=c_view_flow (gcur_chk (h4 i h6) lv)
    have b1:=r1 i (by omega)
    have b2:=r2 i (by omega)
    have b3:=gfl_range (h4 i h6) (rch (nth g i) (nth s i)).lo lv
    have b4:=gfl_range (h4 i h6) (rch (nth g i) (nth s i)).hi lv
    unfold gfl at b3 b4
    simp +contextual (disch:=omega) [-getElem?_pos,-List.length_eq_zero_iff,-Int.natCast_eq_zero,wrap64,get_nth (l:=g),get_nth (l:=s),ht,hr,hf]
    exact rnd_next (i + 1) (by simp [gsum_succ h6 h7,glo,ghi,gfl]) (by omega) (by omega)
   ·obtain rfl:i = g.length:=by omega
    exact hW
  ·rw [if_neg he] at hW
   simp +contextual (disch:=omega) [-getElem?_pos,-List.length_eq_zero_iff,-Int.natCast_eq_zero,wrap64,v_gate_Range,c_gate_asked,he]
   exact hW)
end Go.Proofs.YtfjdfnegookkcaaGreat
namespace Go.Proofs.YtfjdfnegookkcaaGreat
set_option linter.all false
open Go.Vm
attribute [local simp] cond_yes cond_yes2 int_beq int_bne
def gel' (f:Bd → Int) (g:List Gt) (s:List Gs):List Int:=List.zipWith (fun g s => f (rch g s)) g s
theorem gel_len' {f:Bd → Int} {g:List Gt} {s:List Gs} (h:g.length = s.length):(gel' f g s).length = g.length:=by simp [gel',h]
theorem gel_nth {f:Bd → Int} {g:List Gt} {s:List Gs} {i:Nat} (h1:i < g.length) (h2:i < s.length):nth (gel' f g s) i = f (rch (nth g i) (nth s i)):=nth_zip h1 h2
theorem c_r20_ends {g:List Gt} {s:List Gs} (hl:g.length = s.length) (hn:g.length ≤ 8) (hs:allG g s) (hv:∀ i,i < g.length → Gv (nth g i)) (G:List GObj) :
  Lim F 90 [gts g,gss s] G = some (.tuple [own (gel' Bd.lo g s),own (gel' Bd.hi g s)],G) :=
 eq_of rfl rfl (by
  simp +contextual (disch:=omega) [-getElem?_pos,-List.length_eq_zero_iff,-Int.natCast_eq_zero,wrap64,v_r20_ends]
  refine go_loop (fun i:Nat => v_r20_ends_s0 (gss s) (.slice (some 1028) 1 ((gel' Bd.lo (g.take i) (s.take i)).map fun n => [i64 n])) (.slice (some 1033) 1 ((gel' Bd.hi (g.take i) (s.take i)).map fun n => [i64 n])) (gts g) g.length i i i G) (fun i => i ≤ g.length) (fun i => g.length - i) 0 rfl (by simp [gel']) (by omega) ?_
  rintro i hi
  have e1:(gel' Bd.lo (g.take i) (s.take i)).length = i:=by rw [gel_len' (by simp;omega)];simp;omega
  have e2:(gel' Bd.hi (g.take i) (s.take i)).length = i:=by rw [gel_len' (by simp;omega)];simp;omega
  simp +contextual (disch:=omega) [-getElem?_pos,-List.length_eq_zero_iff,-Int.natCast_eq_zero,wrap64,v_r20_ends_b0,e1,e2]
  refine cnd_dec (fun h6 => ?_) (fun h6 => ?_)
  ·have h6:i < g.length:=by omega
   have h7:i < s.length:=by omega
   have hr:=c_r20_reach (hv i h6) (hs i h6)
   simp +contextual (disch:=omega) [-getElem?_pos,-List.length_eq_zero_iff,-Int.natCast_eq_zero,wrap64,get_nth (l:=g),get_nth (l:=s),hr,e1,e2]
   refine rnd_next (i + 1) ?_ (by omega) (by omega)
   unfold gel'
   rw [zip_snoc h6 h7,zip_snoc h6 h7]
   simp
  ·obtain rfl:i = g.length:=by omega
   have t1:g.take g.length = g:=List.take_length
   have t2:s.take g.length = s:=by rw [hl];exact List.take_length
   rw [t1,t2] at *
   simp +contextual (disch:=omega) [-getElem?_pos,-List.length_eq_zero_iff,-Int.natCast_eq_zero,wrap64,e1,e2])
def tot (g:List Gt) (l:List Int) (lv:Int) (i:Nat):Int:=(List.zipWith (fun g o => gfl g o lv) (g.take i) (l.take i)).sum
theorem tot_zero {g:List Gt} {l:List Int} {lv:Int}:tot g l lv 0 = 0:=by simp [tot]
theorem tot_succ {g:List Gt} {l:List Int} {lv:Int} {i:Nat} (h1:i < g.length) (h2:i < l.length):tot g l lv (i + 1) = tot g l lv i + gfl (nth g i) (nth l i) lv:=by
 unfold tot
 rw [zip_snoc h1 h2,List.sum_append]
 simp
theorem tot_range {g:List Gt} {l:List Int} {lv:Int} (hl:g.length = l.length) (hv:∀ i,i < g.length → Gv (nth g i)):∀ i,i ≤ g.length → 0 ≤ tot g l lv i ∧ tot g l lv i ≤ 1073741824 * i:=by
 intro i
 induction i with
 | zero => intro _;rw [tot_zero];omega
 | succ i ih =>
   intro hi
   rw [tot_succ (by omega) (by omega)]
   have:=ih (by omega)
   have:=gfl_range (hv i (by omega)) (nth l i) lv
   omega
theorem c_r20_total {g:List Gt} {l:List Int} (hl:g.length = l.length) (hn:g.length ≤ 8) (hv:∀ i,i < g.length → Gv (nth g i)) (lv:Int) (G:List GObj) :
  Lim F 91 [gts g,ints l,i64 lv] G = some (i64 (tot g l lv g.length),G) :=
 eq_of rfl rfl (by
  generalize hW:tot g l lv g.length = W
  simp +contextual (disch:=omega) [-getElem?_pos,-List.length_eq_zero_iff,-Int.natCast_eq_zero,wrap64,v_r20_total]
  refine go_loop (fun i:Nat => v_r20_total_s0 (ints l) lv (tot g l lv i) (gts g) g.length i G) (fun i => i ≤ g.length) (fun i => g.length - i) 0 rfl (by simp [tot_zero]) (by omega) ?_
  rintro i hi
  simp +contextual (disch:=omega) [-getElem?_pos,-List.length_eq_zero_iff,-Int.natCast_eq_zero,wrap64,v_r20_total_b0]
  refine cnd_dec (fun h6 => ?_) (fun h6 => ?_)
  ·have h6:i < g.length:=by omega
   have h7:i < l.length:=by omega
   have hr:=c_r20_flow (hv i h6)
   have b1:=tot_range (lv:=lv) hl hv i (by omega)
   have b2:=gfl_range (hv i h6) (nth l i) lv
   simp +contextual (disch:=omega) [-getElem?_pos,-List.length_eq_zero_iff,-Int.natCast_eq_zero,wrap64,get_nth (l:=g),get_int h7,hr]
   exact rnd_next (i + 1) (by simp [tot_succ h6 h7]) (by omega) (by omega)
  ·obtain rfl:i = g.length:=by omega
   exact hW)
theorem tot_gel {f:Bd → Int} {g:List Gt} {s:List Gs} {lv:Int} (hl:g.length = s.length):∀ i,i ≤ g.length → tot g (gel' f g s) lv i = gsum (fun g s => gfl g (f (rch g s)) lv) g s i:=by
 intro i
 induction i with
 | zero => intro _;rw [tot_zero,gsum_zero]
 | succ i ih =>
   intro hi
   rw [tot_succ (by omega) (by rw [gel_len' hl];omega),gsum_succ (by omega) (by omega),ih (by omega),gel_nth (by omega) (by omega)]
end Go.Proofs.YtfjdfnegookkcaaGreat
namespace Go.Proofs.YtfjdfnegookkcaaGreat
set_option linter.all false
open Go.Vm
attribute [local simp] cond_yes cond_yes2 int_beq int_bne
theorem wrapu64 {n:Int} (h1:0 ≤ n) (h2:n ≤ 18446744073709551615):IntKind.u64.wrap n = n:=by
 simp [IntKind.wrap,IntKind.bits,IntKind.signed]
 omega
def Says (f:FuncId) (cap:List V) (G:List GObj) (N:Int) (p:Int → Bool):Prop:=∀ m,0 ≤ m → m < N → Lim F f (i64 m :: cap) G = some (.bool (p m),G)
theorem c_sort_Search {f:FuncId} {cap:List V} {G:List GObj} {N:Int} {p:Int → Bool} (hN:0 ≤ N) (hN2:N ≤ 1000000) (h:Says f cap G N p) :
  ∃ r,Lim F 127 [i64 N,.fn f cap] G = some (i64 r,G) ∧ 0 ≤ r ∧ r ≤ N ∧ (0 < r → p (r - 1) = false) ∧ (r < N → p r = true):=by
 suffices hs:∀ Q:V → List GObj → Prop,(∀ r,0 ≤ r → r ≤ N → (0 < r → p (r - 1) = false) → (r < N → p r = true) → Q (i64 r) G) → Ret (Lim F) 127 [i64 N,.fn f cap] G Q by
  obtain ⟨_,_,h,r,rfl,rfl,h1⟩:=hs (fun v G' => ∃ r,v = i64 r ∧ G' = G ∧ 0 ≤ r ∧ r ≤ N ∧ (0 < r → p (r - 1) = false) ∧ (r < N → p r = true)) fun r a b c d => ⟨r,rfl,rfl,a,b,c,d⟩
  exact ⟨r,h,h1⟩
 intro Q hQ
 refine ret_of rfl rfl ?_
 simp +contextual (disch:=omega) [-getElem?_pos,-List.length_eq_zero_iff,-Int.natCast_eq_zero,wrap64,v_sort_Search]
 refine go_loop (fun s:Int × Int => v_sort_Search_s0 (.fn f cap) s.1 s.2 G) (fun s => 0 ≤ s.1 ∧ s.1 ≤ s.2 ∧ s.2 ≤ N ∧ (0 < s.1 → p (s.1 - 1) = false) ∧ (s.2 < N → p s.2 = true)) (fun s => (s.2 - s.1).toNat) (0,N) rfl (by simp) ⟨by simp,by simpa using hN,by simp,by simp,by simp⟩ ?_
 rintro ⟨a,b⟩ ⟨h1,h2,h3,h4,h5⟩
 simp only at h1 h2 h3 h4 h5
 simp +contextual (disch:=omega) [-getElem?_pos,-List.length_eq_zero_iff,-Int.natCast_eq_zero,wrap64,v_sort_Search_b0]
 refine cnd_dec (fun h6 => ?_) (fun h6 => ?_)
 ·have e1:IntKind.u64.wrap (a + b) = a + b:=wrapu64 (by omega) (by omega)
  have e2:(a + b).fdiv 2 = (a + b) / 2:=Int.fdiv_eq_ediv_of_nonneg _ (by omega)
  have hp:=h ((a + b) / 2) (by omega) (by omega)
  have e3:(2:Int) ^ (min 1 IntKind.u64.bits) = 2:=rfl
  simp +contextual (disch:=omega) [-getElem?_pos,-List.length_eq_zero_iff,-Int.natCast_eq_zero,wrap64,e1,e2,e3,hp]
  cases hq:p ((a + b) / 2) with
  | false =>
    simp +contextual (disch:=omega) [-getElem?_pos,-List.length_eq_zero_iff,-Int.natCast_eq_zero,wrap64,wrap64]
    refine rnd_next ((a + b) / 2 + 1,b) (by simp) ⟨by simp;omega,by simp;omega,h3,fun _ => ?_,h5⟩ (by simp;omega)
    simpa using hq
  | true =>
    simp +contextual (disch:=omega) [-getElem?_pos,-List.length_eq_zero_iff,-Int.natCast_eq_zero,wrap64,wrap64]
    exact rnd_next (a,(a + b) / 2) (by simp) ⟨h1,by simp;omega,by simp;omega,h4,fun _ => hq⟩ (by simp;omega)
 ·obtain rfl:a = b:=by omega
  exact hQ a (by omega) (by omega) h4 h5
def lstF (p:Int → Bool):Nat → Int → Int
 | 0,o => o
 | n + 1,o => if p o then o else lstF p n (o + 1)
theorem lstF_eq {p:Int → Bool}:∀ {n:Nat} {o x:Int},o ≤ x → x ≤ o + n → (∀ m,o ≤ m → m < x → p m = false) → (x < o + n → p x = true) → lstF p n o = x
 | 0,o,x,h1,h2,_,_ => by simp [lstF];omega
 | n + 1,o,x,h1,h2,h3,h4 => by
   unfold lstF
   by_cases h:o = x
   ·subst h
    rw [if_pos (h4 (by omega))]
   ·rw [if_neg (by rw [h3 o (by omega) (by omega)];simp)]
    exact lstF_eq (by omega) (by omega) (fun m a b => h3 m (by omega) b) (fun a => h4 (by omega))
theorem c_gate_least_1 {f:FuncId} {cap:List V} {G:List GObj} {i j:Nat} {lo hi m:Int} {b:Bool} (h1:G[i]? = some (.cells [.fn f cap])) (h2:G[j]? = some (.cells [i64 lo,i64 hi]))
  (hw:-1000000 ≤ lo + m ∧ lo + m ≤ 1000000) (h:Lim F f (i64 (lo + m) :: cap) G = some (.bool b,G)):Lim F 128 [i64 m,.gptr i 0,.gptr j 0] G = some (.bool b,G) :=
 eq_of rfl rfl (by
  have e:IntKind.i64.wrap (lo + m) = lo + m:=wrap64 (by omega) (by omega)
  simp +contextual (disch:=omega) [-getElem?_pos,-List.length_eq_zero_iff,-Int.natCast_eq_zero,wrap64,v_gate_least_1,h1,h2,h,e])
theorem c_gate_least {f:FuncId} {cap:List V} {G:List GObj} {lo hi:Int} {p:Int → Bool} (hl:0 ≤ lo ∧ lo ≤ hi ∧ hi ≤ 1000) (hp:∀ m m',p m = true → m ≤ m' → p m' = true)
  (h:∀ E m,lo ≤ m → m ≤ hi → Lim F f (i64 m :: cap) (G ++ E) = some (.bool (p m),G ++ E)) :
  Lim F 116 [.agg [i64 lo,i64 hi],.fn f cap] G = some (i64 (lstF p (hi - lo).toNat lo),G ++ [.cells [i64 lo,i64 hi],.cells [.fn f cap]]):=by
 have hs:Says 128 [.gptr (G.length + 1) 0,.gptr G.length 0] (G ++ [.cells [i64 lo,i64 hi],.cells [.fn f cap]]) (hi - lo + 1) (fun m => p (lo + m)):=fun m a b =>
  c_gate_least_1 gl1 gl0 (by omega) (h _ _ (by omega) (by omega))
 obtain ⟨r,h1,h2,h3,h4,h5⟩:=c_sort_Search (by omega) (by omega) hs
 have e:lstF p (hi - lo).toNat lo = min (lo + r) hi:=by
  refine lstF_eq (by omega) (by omega) (fun m a b => ?_) (fun a => ?_)
  ·have h6:=h4 (by omega)
   cases hq:p m with
   | false => rfl
   | true =>
     have:=hp m (lo + (r - 1)) hq (by omega)
     rw [h6] at this
     cases this
  ·have:=h5 (by omega)
   rw [show min (lo + r) hi = lo + r by omega]
   exact this
 rw [e]
 exact eq_of rfl rfl (by
  simp +contextual (disch:=omega) [-getElem?_pos,-List.length_eq_zero_iff,-Int.natCast_eq_zero,wrap64,v_gate_least,h1,gl0,gl1])
theorem c_gate_Set_1 {G:List GObj} {i j:Nat} {m w:Int} {c:List Pt} (h1:G[i]? = some (.cells [.fn 115 []])) (h2:G[j]? = some (.cells [pts c,i64 w])) (hc:c = [] ∨ cChk c = 0) :
  Lim F 117 [i64 m,.gptr i 0,.gptr j 0] G = some (.bool (decide (w ≤ cfl c m)),G) :=
 eq_of rfl rfl (by
  simp +contextual (disch:=omega) [-getElem?_pos,-List.length_eq_zero_iff,-Int.natCast_eq_zero,wrap64,v_gate_Set_1,h1,h2,c_view_enough hc])
def opn (lv w:Int) (g:Gt) (s:Gs) (sum:Int):Int :=
 if sum < w then lstF (fun o => decide (w - (sum - glo lv g s) ≤ gfl g o lv)) ((rch g s).hi - (rch g s).lo).toNat (rch g s).lo else (rch g s).lo
def bs (lv w:Int) (g:List Gt) (s:List Gs):Nat → List Int × Int
 | 0 => (gel' Bd.lo g s,gsum (glo lv) g s g.length)
 | i + 1 => ((bs lv w g s i).1.set i (opn lv w (nth g i) (nth s i) (bs lv w g s i).2),(bs lv w g s i).2 - glo lv (nth g i) (nth s i) + gfl (nth g i) (opn lv w (nth g i) (nth s i) (bs lv w g s i).2) lv)
def mkGs (o:Int) (s:Gs):Gs:=⟨o,s.j⟩
def outS (l:List Int) (s:List Gs):List Gs:=List.zipWith mkGs l s
noncomputable def setE (g:List Gt) (s:List Gs) (lv w:Int):Int:=if aE g s lv ≠ 0 then aE g s lv else if ¬(0 ≤ w ∧ w ≤ 1073741824) then 1 else 0
noncomputable def setS (g:List Gt) (s:List Gs) (lv w:Int):List Gs:=if setE g s lv w = 0 then outS (bs lv w g s g.length).1 s else []
noncomputable def setF (g:List Gt) (s:List Gs) (lv w:Int):Int:=if setE g s lv w = 0 then (bs lv w g s g.length).2 else 0
theorem bs_len {lv w:Int} {g:List Gt} {s:List Gs} (hl:g.length = s.length):∀ i,(bs lv w g s i).1.length = g.length
 | 0 => gel_len' hl
 | i + 1 => by simp [bs,bs_len hl i]
theorem rch_ok {g:Gt} {s:Gs} (h:Gv g) (hs:gvP g s):0 ≤ (rch g s).lo ∧ (rch g s).lo ≤ (rch g s).hi ∧ (rch g s).hi ≤ g.most:=by
 have h1:=h.most
 have h2:=h.move
 have h3:=hs.1
 have h4:=hs.2
 unfold rch
 split
 ·simp only;omega
 ·simp only;omega
theorem lstF_range {p:Int → Bool}:∀ {n:Nat} {o:Int},o ≤ lstF p n o ∧ lstF p n o ≤ o + n
 | 0,o => by simp [lstF]
 | n + 1,o => by
   unfold lstF
   have:=lstF_range (p:=p) (n:=n) (o:=o + 1)
   split
   ·omega
   ·omega
theorem opn_range {lv w:Int} {g:Gt} {s:Gs} (h:Gv g) (hs:gvP g s) (sum:Int):(rch g s).lo ≤ opn lv w g s sum ∧ opn lv w g s sum ≤ (rch g s).hi:=by
 have:=rch_ok h hs
 unfold opn
 split
 ·have:=lstF_range (p:=fun o => decide (w - (sum - glo lv g s) ≤ gfl g o lv)) (n:=((rch g s).hi - (rch g s).lo).toNat) (o:=(rch g s).lo)
  omega
 ·omega
theorem bs_sum {lv w:Int} {g:List Gt} {s:List Gs} (hl:g.length = s.length) (hs:allG g s) (hv:∀ i,i < g.length → Gv (nth g i)):∀ i,i ≤ g.length →
  gsum (glo lv) g s g.length - gsum (glo lv) g s i ≤ (bs lv w g s i).2 ∧ (bs lv w g s i).2 ≤ gsum (glo lv) g s g.length - gsum (glo lv) g s i + 1073741824 * i:=by
 intro i
 induction i with
 | zero => intro _;simp [bs,gsum_zero]
 | succ i ih =>
   intro hi
   have h1:=ih (by omega)
   have h2:=gfl_range (hv i (by omega)) (opn lv w (nth g i) (nth s i) (bs lv w g s i).2) lv
   have h3:=gfl_range (hv i (by omega)) (rch (nth g i) (nth s i)).lo lv
   rw [gsum_succ (by omega) (by omega)]
   simp only [bs,glo] at h1 ⊢
   omega
theorem bs_bound {lv w:Int} {g:List Gt} {s:List Gs} (hl:g.length = s.length) (hn:g.length ≤ 8) (hs:allG g s) (hv:∀ i,i < g.length → Gv (nth g i)) {i:Nat} (hi:i ≤ g.length) :
  0 ≤ (bs lv w g s i).2 ∧ (bs lv w g s i).2 ≤ 17179869184 ∧ (i < g.length → glo lv (nth g i) (nth s i) ≤ (bs lv w g s i).2):=by
 have h1:=bs_sum (lv:=lv) (w:=w) hl hs hv i hi
 have r:=gsum_range (f:=glo lv) hl (fun i hi => gfl_range (hv i hi) _ _)
 have r1:=r g.length (Nat.le_refl _)
 have r2:=r i hi
 have mono:∀ k,i ≤ k → k ≤ g.length → gsum (glo lv) g s i ≤ gsum (glo lv) g s k:=by
  intro k h
  induction k with
  | zero => intro _;obtain rfl:i = 0:=by omega
            omega
  | succ k ih =>
    intro hk
    rcases Nat.lt_or_ge k i with h3 | h3
    ·obtain rfl:i = k + 1:=by omega
     omega
    ·rw [gsum_succ (by omega) (by omega)]
     have:=ih h3 (by omega)
     have:=gfl_range (hv k (by omega)) (rch (nth g k) (nth s k)).lo lv
     unfold glo;unfold glo at *;omega
 have m1:=mono g.length hi (Nat.le_refl _)
 refine ⟨by omega,by omega,fun h => ?_⟩
 have m2:=mono (i + 1) (by omega) (by omega)
 have m3:gsum (glo lv) g s (i + 1) ≤ gsum (glo lv) g s g.length:=by
  have mono2:∀ k,i + 1 ≤ k → k ≤ g.length → gsum (glo lv) g s (i + 1) ≤ gsum (glo lv) g s k:=by
   intro k hk
   induction k with
   | zero => omega
   | succ k ih =>
     intro hk2
     rcases Nat.lt_or_ge k (i + 1) with h3 | h3
     ·obtain rfl:i = k:=by omega
      omega
     ·rw [gsum_succ (i:=k) (by omega) (by omega)]
      have:=ih h3 (by omega)
      have:=gfl_range (hv k (by omega)) (rch (nth g k) (nth s k)).lo lv
      unfold glo;unfold glo at *;omega
  exact mono2 g.length (by omega) (Nat.le_refl _)
 rw [gsum_succ (by omega) (by omega)] at m3
 omega
theorem c_gate_Set (g:List Gt) (s:List Gs) (lv w:Int):∃ G',Lim F 98 [gts g,gss s,i64 lv,i64 w] [] = some (.tuple [.slice (some 0) 2 ((setS g s lv w).map Gs.row),i64 (setF g s lv w),i64 (setE g s lv w)],G'):=by
 suffices h:∀ Q:V → List GObj → Prop,(∀ G',Q (.tuple [.slice (some 0) 2 ((setS g s lv w).map Gs.row),i64 (setF g s lv w),i64 (setE g s lv w)]) G') → Ret (Lim F) 98 [gts g,gss s,i64 lv,i64 w] [] Q by
  obtain ⟨_,G',h,rfl⟩:=h (fun v G' => v = .tuple [.slice (some 0) 2 ((setS g s lv w).map Gs.row),i64 (setF g s lv w),i64 (setE g s lv w)]) fun _ => rfl
  exact ⟨G',h⟩
 intro Q hQ
 refine ret_of rfl rfl ?_
 by_cases he:aE g s lv = 0
 ·obtain ⟨h1,h2,h3,h4,h5⟩:=aE_zero he
  by_cases hw:0 ≤ w ∧ w ≤ 1073741824
  ·have hE:setE g s lv w = 0:=by simp [setE,he,hw]
   simp only [setS,setF,hE,if_true] at hQ
   have hw2:(!decide (0 ≤ w) || !decide (w ≤ 1073741824)) = false:=by simp;omega
   have hw3:(decide (0 ≤ w) && decide (w ≤ 1073741824)) = true:=by simp;omega
   have e0:bs lv w g s 0 = (gel' Bd.lo g s,gsum (glo lv) g s g.length):=rfl
   simp +contextual (disch:=omega) [-getElem?_pos,-List.length_eq_zero_iff,-Int.natCast_eq_zero,wrap64,v_gate_Set,c_gate_Range,grV,he,c_quantity_Within,hw2,hw3]
   have hou:∀ i,i ≤ g.length → (outS ((bs lv w g s i).1.take i) (s.take i)).length = i:=fun i hi => by
    have:=bs_len (lv:=lv) (w:=w) h2 i
    simp [outS];omega
   refine go_loop (fun x:Nat × List GObj => v_gate_Set_s0 (gss s) lv w (bs lv w g s x.1).2 (.gptr 0 0) (.slice (some 1083) 2 ((outS ((bs lv w g s x.1).1.take x.1) (s.take x.1)).map Gs.row)) (gts g) g.length x.1 x.1 x.2)
    (fun x => x.1 ≤ g.length ∧ x.2[0]? = some (.cells [.fn 115 []])) (fun x => g.length - x.1) (0,[.cells [.fn 115 []]]) rfl (by simp [bs,outS]) ⟨by simp,rfl⟩ ?_
   rintro ⟨i,G⟩ ⟨hi,hG⟩
   simp only at hi hG
   have hou':=hou i hi
   have hG0:0 < G.length:=by
    rcases Nat.eq_zero_or_pos G.length with h | h
    ·rw [List.getElem?_eq_none (by omega)] at hG;cases hG
    ·exact h
   simp +contextual (disch:=omega) [-getElem?_pos,-List.length_eq_zero_iff,-Int.natCast_eq_zero,wrap64,v_gate_Set_b0]
   refine cnd_dec (fun h6 => ?_) (fun h6 => ?_)
   ·have h6:i < g.length:=by omega
    have h7:i < s.length:=by omega
    obtain ⟨t,ht⟩:=c_gate_at (h4 i h6) lv []
    have hr:=c_gate_reach (h4 i h6) (h3 i h6)
    have hk:=gcur_chk (h4 i h6) lv
    have hf:=c_view_flow hk
    have hro:=rch_ok (h4 i h6) (h3 i h6)
    have hm:=(h4 i h6).most
    obtain ⟨b1,b2,b3⟩:=bs_bound (lv:=lv) (w:=w) h2 h1 h3 h4 (i:=i) hi
    have b3:=b3 h6
    have b4:=gfl_range (h4 i h6) (rch (nth g i) (nth s i)).lo lv
    have b5:=gfl_range (h4 i h6) (opn lv w (nth g i) (nth s i) (bs lv w g s i).2) lv
    have hlb:=bs_len (lv:=lv) (w:=w) h2 i
    have hstep:outS ((bs lv w g s (i + 1)).1.take (i + 1)) (s.take (i + 1)) = outS ((bs lv w g s i).1.take i) (s.take i) ++ [mkGs (opn lv w (nth g i) (nth s i) (bs lv w g s i).2) (nth s i)]:=by
     unfold outS
     rw [zip_snoc (by rw [bs_len h2];exact h6) h7]
     simp only [bs]
     rw [List.take_set_of_le (Nat.le_refl _)]
     congr 2
     simp [nth,hlb,h6]
    by_cases hsum:(bs lv w g s i).2 < w
    ·have hop:opn lv w (nth g i) (nth s i) (bs lv w g s i).2 = lstF (fun o => decide (w - ((bs lv w g s i).2 - glo lv (nth g i) (nth s i)) ≤ gfl (nth g i) o lv)) ((rch (nth g i) (nth s i)).hi - (rch (nth g i) (nth s i)).lo).toNat (rch (nth g i) (nth s i)).lo:=by
      unfold opn;rw [if_pos hsum]
     have hL:=c_gate_least (f:=117) (cap:=[.gptr 0 0,.gptr G.length 0]) (G:=G ++ [.cells [pts (gcur (nth g i).r lv),i64 (w - ((bs lv w g s i).2 - glo lv (nth g i) (nth s i)))]]) (lo:=(rch (nth g i) (nth s i)).lo) (hi:=(rch (nth g i) (nth s i)).hi)
      (p:=fun o => decide (w - ((bs lv w g s i).2 - glo lv (nth g i) (nth s i)) ≤ gfl (nth g i) o lv)) (by omega) (fun m m' hp hmm => by
       have:=gfl_mono (h4 i h6) (lv:=lv) hmm
       simp only [decide_eq_true_eq] at hp ⊢
       omega) (fun E m _ _ => c_gate_Set_1 (by rw [List.append_assoc,List.getElem?_append_left hG0];exact hG) (by rw [List.append_assoc];exact gl0) hk)
     rw [← hop] at hL
     unfold glo gfl at hL b3
     unfold gfl at b4 b5
     simp +contextual (disch:=omega) [-getElem?_pos,-List.length_eq_zero_iff,-Int.natCast_eq_zero,wrap64,get_nth (l:=g),get_nth (l:=s),ht,hr,hf,gl0,gset,hsum]
     simp +contextual (disch:=omega) [-getElem?_pos,-List.length_eq_zero_iff,-Int.natCast_eq_zero,wrap64,hL,gl0,hf,get_nth (l:=s),hou']
     refine rnd_next (i + 1,G ++ [.cells [pts (gcur (nth g i).r lv),i64 (w - ((bs lv w g s i).2 - glo lv (nth g i) (nth s i)))],.cells [i64 (rch (nth g i) (nth s i)).lo,i64 (rch (nth g i) (nth s i)).hi],.cells [.fn 117 [.gptr 0 0,.gptr G.length 0]]])
      (by rw [hstep];simp [bs,glo,gfl,mkGs,hou']) ⟨by simp;omega,by simp only;rw [List.getElem?_append_left hG0];exact hG⟩ (by simp;omega)
    ·have hop:opn lv w (nth g i) (nth s i) (bs lv w g s i).2 = (rch (nth g i) (nth s i)).lo:=by
      unfold opn;rw [if_neg hsum]
     have hb:(bs lv w g s (i + 1)).2 = (bs lv w g s i).2:=by
      simp only [bs,glo,hop];omega
     simp +contextual (disch:=omega) [-getElem?_pos,-List.length_eq_zero_iff,-Int.natCast_eq_zero,wrap64,get_nth (l:=g),get_nth (l:=s),ht,hr,hf,gl0,gset,hsum,hou']
     refine rnd_next (i + 1,G ++ [.cells [pts (gcur (nth g i).r lv),i64 0]])
      (by rw [hstep,hb,hop];simp [mkGs,hou']) ⟨by simp;omega,by simp only;rw [List.getElem?_append_left hG0];exact hG⟩ (by simp;omega)
   ·obtain rfl:i = g.length:=by omega
    have t1:(bs lv w g s g.length).1.take g.length = (bs lv w g s g.length).1:=List.take_of_length_le (by rw [bs_len h2];omega)
    have t2:s.take g.length = s:=List.take_of_length_le (by omega)
    rw [t1,t2] at hou' ⊢
    simp +contextual (disch:=omega) [-getElem?_pos,-List.length_eq_zero_iff,-Int.natCast_eq_zero,wrap64,hou']
    exact hQ _
  ·have hw3:(decide (0 ≤ w) && decide (w ≤ 1073741824)) = false:=by simp;omega
   have hE:setE g s lv w = 1:=by simp [setE,he];omega
   have hE2:¬ setE g s lv w = 0:=by rw [hE];omega
   simp only [setS,setF,if_neg hE2] at hQ
   rw [hE] at hQ
   have hw2:(!decide (0 ≤ w) || !decide (w ≤ 1073741824)) = true:=by simp;omega
   simp +contextual (disch:=omega) [-getElem?_pos,-List.length_eq_zero_iff,-Int.natCast_eq_zero,wrap64,v_gate_Set,c_gate_Range,grV,he,c_quantity_Within,hw2,hw3]
   exact hQ _
 ·have hE:setE g s lv w = aE g s lv:=by simp [setE,he]
  have hE2:¬ setE g s lv w = 0:=by rw [hE];exact he
  simp only [setS,setF,if_neg hE2] at hQ
  rw [hE] at hQ
  simp +contextual (disch:=omega) [-getElem?_pos,-List.length_eq_zero_iff,-Int.natCast_eq_zero,wrap64,v_gate_Set,c_gate_Range,grV,he]
  exact hQ _
end Go.Proofs.YtfjdfnegookkcaaGreat
namespace Go.Proofs.YtfjdfnegookkcaaGreat
set_option linter.all false
open Go.Vm
theorem nth_set_eq {l:List Int} {i:Nat} {o:Int} (h:i < l.length):nth (l.set i o) i = o:=by simp [nth,h]
theorem nth_set_ne {l:List Int} {i k:Nat} {o:Int} (h:i ≠ k):nth (l.set i o) k = nth l k:=by simp [nth,h]
theorem set_nth {l:List Int} {i:Nat} (h:i < l.length):l.set i (nth l i) = l:=by
 apply List.ext_getElem?
 intro k
 by_cases hk:i = k
 ·subst hk
  rw [List.getElem?_set_self h,get_nth h]
 ·rw [List.getElem?_set_ne hk]
theorem tot_set {g:List Gt} {l:List Int} {lv o:Int} {i:Nat} (hl:g.length = l.length) (hi:i < g.length):∀ k,k ≤ g.length → tot g (l.set i o) lv k = tot g l lv k + (if i < k then gfl (nth g i) o lv - gfl (nth g i) (nth l i) lv else 0):=by
 intro k
 induction k with
 | zero => intro _;simp [tot_zero]
 | succ k ih =>
   intro hk
   rw [tot_succ (by omega) (by simp;omega),tot_succ (by omega) (by omega),ih (by omega)]
   by_cases h1:i = k
   ·subst h1
    rw [nth_set_eq (by omega),if_neg (by omega),if_pos (by omega)]
    omega
   ·rw [nth_set_ne h1]
    by_cases h2:i < k
    ·rw [if_pos h2,if_pos (by omega)];omega
    ·rw [if_neg h2,if_neg (by omega)];omega
section
variable {g:List Gt} {s:List Gs} {lv w:Int}
theorem bs_nth (hl:g.length = s.length):∀ {i k:Nat},i ≤ k → k < g.length → nth (bs lv w g s i).1 k = (rch (nth g k) (nth s k)).lo:=by
 intro i
 induction i with
 | zero => intro k _ hk;exact gel_nth hk (by omega)
 | succ i ih =>
   intro k h hk
   simp only [bs]
   rw [nth_set_ne (by omega)]
   exact ih (by omega) hk
theorem bs_tot_set (hl:g.length = s.length) {i:Nat} (ht:tot g (bs lv w g s i).1 lv g.length = (bs lv w g s i).2) (hi:i < g.length) (o:Int) :
  tot g ((bs lv w g s i).1.set i o) lv g.length = (bs lv w g s i).2 - glo lv (nth g i) (nth s i) + gfl (nth g i) o lv:=by
 rw [tot_set (by rw [bs_len hl]) hi _ (Nat.le_refl _),if_pos hi,ht,bs_nth hl (Nat.le_refl _) hi]
 unfold glo
 omega
theorem bs_tot (hl:g.length = s.length):∀ i,i ≤ g.length → tot g (bs lv w g s i).1 lv g.length = (bs lv w g s i).2:=by
 intro i
 induction i with
 | zero => intro _;exact tot_gel hl _ (Nat.le_refl _)
 | succ i ih =>
   intro hi
   have:=bs_tot_set hl (ih (by omega)) (by omega) (opn lv w (nth g i) (nth s i) (bs lv w g s i).2)
   simpa only [bs] using this
theorem bs_stay (hl:g.length = s.length) {j:Nat} (hw:w ≤ (bs lv w g s j).2):∀ k,j ≤ k → k ≤ g.length → bs lv w g s k = bs lv w g s j:=by
 intro k hjk
 induction k with
 | zero => intro _;obtain rfl:j = 0:=by omega
           rfl
 | succ k ih =>
   intro hk
   rcases Nat.lt_or_ge k j with h | h
   ·obtain rfl:j = k + 1:=by omega
    rfl
   ·have h1:=ih h (by omega)
    have ho:opn lv w (nth g k) (nth s k) (bs lv w g s k).2 = (rch (nth g k) (nth s k)).lo:=by
     unfold opn;rw [if_neg (by rw [h1];omega)]
    have h2:bs lv w g s (k + 1) = bs lv w g s k:=by
     have e1:(bs lv w g s k).1.set k (rch (nth g k) (nth s k)).lo = (bs lv w g s k).1:=by
      rw [← bs_nth (lv:=lv) (w:=w) hl (Nat.le_refl k) (by omega)]
      exact set_nth (by rw [bs_len hl];omega)
     simp only [bs,ho,glo,e1]
     rw [show (bs lv w g s k).2 - gfl (nth g k) (rch (nth g k) (nth s k)).lo lv + gfl (nth g k) (rch (nth g k) (nth s k)).lo lv = (bs lv w g s k).2 by omega]
    rw [h2,h1]
structure Way (lv w:Int) (g:List Gt) (s:List Gs) (i:Nat) (o:Int):Prop where
 lt:i < g.length
 lo:(rch (nth g i) (nth s i)).lo ≤ o
 hi:o ≤ (rch (nth g i) (nth s i)).hi
 no:∀ p,(rch (nth g i) (nth s i)).lo ≤ p → p < o → (bs lv w g s i).2 - glo lv (nth g i) (nth s i) + gfl (nth g i) p lv < w
theorem Way.done {i:Nat} {o:Int} (h:Way lv w g s i o) (hv:Gv (nth g i)) (hs:gvP (nth g i) (nth s i)) (hd:o = (rch (nth g i) (nth s i)).hi ∨ w ≤ (bs lv w g s i).2 - glo lv (nth g i) (nth s i) + gfl (nth g i) o lv) :
  opn lv w (nth g i) (nth s i) (bs lv w g s i).2 = o:=by
 have h1:=h.lo
 have h2:=h.hi
 unfold opn
 split
 ·refine lstF_eq h1 (by omega) (fun p a b => ?_) (fun a => ?_)
  ·have:=h.no p a b
   exact decide_eq_false (by omega)
  ·rcases hd with hd | hd
   ·omega
   ·exact decide_eq_true (by omega)
 ·rename_i hn
  by_cases he:(rch (nth g i) (nth s i)).lo = o
  ·exact he
  ·have:=h.no _ (Int.le_refl _) (by omega)
   unfold glo at this
   omega
theorem way_next (hl:g.length = s.length) {i:Nat} (hi:i < g.length) (hv:Gv (nth g i)) (hs:gvP (nth g i) (nth s i)):Way lv w g s i (rch (nth g i) (nth s i)).lo :=
 ⟨hi,Int.le_refl _,(rch_ok hv hs).2.1,fun p a b => by omega⟩
theorem bs_at (hl:g.length = s.length) {i:Nat} (hi:i < g.length):(bs lv w g s i).1.set i (rch (nth g i) (nth s i)).lo = (bs lv w g s i).1:=by
 rw [← bs_nth (lv:=lv) (w:=w) hl (Nat.le_refl i) hi]
 exact set_nth (by rw [bs_len hl];exact hi)
end
end Go.Proofs.YtfjdfnegookkcaaGreat
namespace Go.Proofs.YtfjdfnegookkcaaGreat
set_option linter.all false
open Go.Vm
attribute [local simp] cond_yes cond_yes2 int_beq int_bne
theorem nth_big {l:List Int} {i:Nat} (h:l.length ≤ i):nth l i = 0:=by
 simp only [nth,List.getD,List.getElem?_eq_none h];rfl
theorem c_r20_Set (g:List Gt) (s:List Gs) (lv w:Int) (G:List GObj):Lim F 63 [gts g,gss s,i64 lv,i64 w] G = some (.tuple [.slice (some 0) 2 ((setS g s lv w).map Gs.row),i64 (setF g s lv w),i64 (setE g s lv w)],G) :=
 eq_of rfl rfl (by
  generalize hW:V.tuple [.slice (some 0) 2 ((setS g s lv w).map Gs.row),i64 (setF g s lv w),i64 (setE g s lv w)] = W
  by_cases he:aE g s lv = 0
  ·obtain ⟨h1,h2,h3,h4,h5⟩:=aE_zero he
   by_cases hw:0 ≤ w ∧ w ≤ 1073741824
   ·have hE:setE g s lv w = 0:=by simp [setE,he,hw]
    simp only [setS,setF,hE,if_true] at hW
    have hw2:(!decide (0 ≤ w) || !decide (w ≤ 1073741824)) = false:=by simp;omega
    have hw3:(decide (0 ≤ w) && decide (w ≤ 1073741824)) = true:=by simp;omega
    have hE2:=c_r20_ends h2 h1 h3 h4
    by_cases hg:g = []
    ·subst hg
     have hs0:s = []:=by simpa using h2.symm
     subst hs0
     have hE3:Lim F 90 [.slice none 3 [],.slice none 2 []] [] = some (.tuple [.slice (some 0) 1 [],.slice (some 0) 1 []],[]):=hE2 []
     have hT3:Lim F 91 [.slice none 3 [],.slice none 1 [],i64 lv] [] = some (i64 0,[]):=c_r20_total (g:=[]) (l:=[]) rfl (by simp) (by simp) lv []
     have e2:ownV 20031 0 (.tuple [.slice (some 0) 1 [],.slice (some 0) 1 []]) = some (.tuple [.zed 1,.slice none 1 []],none):=rfl
     have he0:Lim F 89 [.slice none 3 [],.slice none 2 [],i64 lv] [] = some (i64 0,[]):=by
      have:=c_r20_wrong [] [] lv []
      rw [he] at this
      exact this
     simp +contextual (disch:=omega) [-getElem?_pos,-List.length_eq_zero_iff,-Int.natCast_eq_zero,wrap64,v_r20_Set,he0,c_r01_In,hw2,hw3,hE3,e2,v_r20_Set_l1,v_r20_Set_b1,v_r20_Set_l2,v_r20_Set_b2,go_unroll,hT3]
     simpa [outS,bs,gsum] using hW
    ·have hne:gel' Bd.lo g s ≠ []:=fun e => hg (by have:=gel_len' (f:=Bd.lo) h2;rw [e] at this;exact List.length_eq_zero_iff.1 this.symm)
     have e2:=ownV_two (id:=20031) (t:=0) (u:=0) (m:=gel' Bd.hi g s) hne
     have hll:=gel_len' (f:=Bd.lo) h2
     simp +contextual (disch:=omega) [-getElem?_pos,-List.length_eq_zero_iff,-Int.natCast_eq_zero,wrap64,v_r20_Set,c_r20_wrong,he,c_r01_In,hw2,hw3,hE2,e2,hll]
     have hpos:0 < g.length:=List.length_pos_iff.2 hg
     refine go_loop (fun x:Nat × List Int => v_r20_Set_s1 (gts g) (gss s) lv w g.length (ints (gel' Bd.hi g s)) x.1 (icells x.2) G)
      (fun x => (∃ o,Way lv w g s x.1 o ∧ x.2 = (bs lv w g s x.1).1.set x.1 o) ∨ (x.1 = g.length ∧ x.2 = (bs lv w g s g.length).1)) (fun x => (g.length - x.1) * 2000 + (nth (gel' Bd.hi g s) x.1 - nth x.2 x.1).toNat) (0,gel' Bd.lo g s) rfl (by simp) (.inl ⟨_,way_next h2 hpos (h4 0 hpos) (h3 0 hpos),by rw [bs_at h2 hpos];rfl⟩) ?_
     rintro ⟨i,l⟩ hinv
     simp only at hinv
     have hlen:l.length = g.length:=by
      rcases hinv with ⟨o,_,rfl⟩ | ⟨_,rfl⟩
      ·rw [List.length_set,bs_len h2]
      ·rw [bs_len h2]
     have hT:=c_r20_total hlen.symm h1 h4 lv
     rcases hinv with ⟨o,hway,hl⟩ | ⟨rfl,rfl⟩
     ·have hi:=hway.lt
      have htot:tot g l lv g.length = (bs lv w g s i).2 - glo lv (nth g i) (nth s i) + gfl (nth g i) o lv:=by
       rw [hl];exact bs_tot_set h2 (bs_tot h2 i (by omega)) hi o
      rw [htot] at hT
      generalize hTT:(bs lv w g s i).2 - glo lv (nth g i) (nth s i) + gfl (nth g i) o lv = T at *
      have hlt:i < l.length:=by omega
      simp +contextual (disch:=omega) [-getElem?_pos,-List.length_eq_zero_iff,-Int.natCast_eq_zero,wrap64,v_r20_Set_b1,hi,hT,hlen]
      have hgi:i < (gel' Bd.hi g s).length:=by rw [gel_len' h2];exact hi
      have hni:nth l i = o:=by rw [hl];exact nth_set_eq (by rw [bs_len h2];exact hi)
      have hnh:nth (gel' Bd.hi g s) i = (rch (nth g i) (nth s i)).hi:=gel_nth hi (by omega)
      refine cnd_dec (fun h6 => ?_) (fun h6 => ?_)
      ·simp +contextual (disch:=omega) [-getElem?_pos,-List.length_eq_zero_iff,-Int.natCast_eq_zero,wrap64,icells_get hlt,get_int hgi,hni,hnh]
       refine cnd_dec (fun h7 => ?_) (fun h7 => ?_)
       ·have hd:=hway.done (h4 i hi) (h3 i hi) (.inl h7)
        have hn:(bs lv w g s (i + 1)).1 = l:=by simp only [bs,hd,hl]
        refine rnd_next (i + 1,l) (by simp) ?_ ?_
        ·by_cases hi2:i + 1 < g.length
         ·refine .inl ⟨_,way_next h2 hi2 (h4 _ hi2) (h3 _ hi2),?_⟩
          simp only
          rw [bs_at h2 hi2,hn]
         ·exact .inr ⟨by simp only;omega,by simp only;rw [← hn,show g.length = i + 1 by omega]⟩
        ·have hr2:nth (gel' Bd.hi g s) (i + 1) - nth l (i + 1) ≤ 1000:=by
          by_cases hi2:i + 1 < g.length
          ·rw [gel_nth hi2 (by omega),← hn,bs_nth h2 (Nat.le_refl _) hi2]
           have:=rch_ok (h4 _ hi2) (h3 _ hi2)
           have:=(h4 _ hi2).most
           omega
          ·have e1:nth (gel' Bd.hi g s) (i + 1) = 0:=nth_big (by rw [gel_len' h2];omega)
           have e2:nth l (i + 1) = 0:=nth_big (by omega)
           omega
         simp only
         omega
       ·have hlo:=hway.lo
        have hhi:=hway.hi
        have hro:=rch_ok (h4 i hi) (h3 i hi)
        have hmo:=(h4 i hi).most
        refine go_loop (fun l:List Int => v_r20_Set_s0 (gts g) (gss s) lv w g.length (ints (gel' Bd.hi g s)) i (icells l) G)
         (fun m => ∃ o',Way lv w g s i o' ∧ o ≤ o' ∧ m = (bs lv w g s i).1.set i o') (fun m => (nth (gel' Bd.hi g s) i - nth m i).toNat) l rfl (by simp [hlen]) ⟨o,hway,Int.le_refl _,hl⟩ ?_
        rintro m ⟨o',hway',ho',rfl⟩
        have hlo':=hway'.lo
        have hhi':=hway'.hi
        have hlen':((bs lv w g s i).1.set i o').length = g.length:=by rw [List.length_set,bs_len h2]
        have hlt':i < ((bs lv w g s i).1.set i o').length:=by omega
        have hni':nth ((bs lv w g s i).1.set i o') i = o':=nth_set_eq (by rw [bs_len h2];exact hi)
        have hT':=c_r20_total hlen'.symm h1 h4 lv
        rw [bs_tot_set h2 (bs_tot h2 i (by omega)) hi o'] at hT'
        have hnx:∀ z,((bs lv w g s i).1.set i o').set i z = (bs lv w g s i).1.set i z:=fun z => by simp
        generalize hm:(bs lv w g s i).1.set i o' = m at hlen' hlt' hni' hT' hnx ⊢
        by_cases h8:o' < (rch (nth g i) (nth s i)).hi
        ·by_cases h9:(bs lv w g s i).2 - glo lv (nth g i) (nth s i) + gfl (nth g i) o' lv < w
         ·simp +contextual (disch:=omega) [-getElem?_pos,-List.length_eq_zero_iff,-Int.natCast_eq_zero,wrap64,v_r20_Set_b0,icells_get hlt',get_int hgi,hni',hnh,h8,hT',hlen',h9]
          refine rnd_next (m.set i (o' + 1)) (by simp) ⟨o' + 1,⟨hi,by omega,by omega,fun p a b => ?_⟩,by omega,hnx _⟩ ?_
          ·by_cases hp:p = o'
           ·rw [hp];exact h9
           ·exact hway'.no p a (by omega)
          ·rw [nth_set_eq hlt'];omega
         ·simp +contextual (disch:=omega) [-getElem?_pos,-List.length_eq_zero_iff,-Int.natCast_eq_zero,wrap64,v_r20_Set_b0,icells_get hlt',get_int hgi,hni',hnh,h8,hT',hlen',h9]
          refine rnd_next (i,m) (by simp) (.inl ⟨o',hway',hm.symm⟩) ?_
          have:o ≠ o':=fun e => by rw [← e,hTT] at h9;exact h9 h6
          simp only [hni',hni,hnh]
          omega
        ·simp +contextual (disch:=omega) [-getElem?_pos,-List.length_eq_zero_iff,-Int.natCast_eq_zero,wrap64,v_r20_Set_b0,icells_get hlt',get_int hgi,hni',hnh,h8,hT',hlen']
         refine rnd_next (i,m) (by simp) (.inl ⟨o',hway',hm.symm⟩) ?_
         simp only [hni',hni,hnh]
         omega
      ·have hd:=hway.done (h4 i hi) (h3 i hi) (.inr (by omega))
       have hs2:(bs lv w g s (i + 1)).2 = T:=by rw [← hTT];simp only [bs,hd]
       have hn:l = (bs lv w g s g.length).1:=by
        rw [bs_stay h2 (j:=i + 1) (by omega) g.length (by omega) (Nat.le_refl _),hl]
        simp only [bs,hd]
       clear hT htot hlt hni
       subst hn
       refine go_loop (fun k:Nat => v_r20_Set_s2 (gts g) lv g.length (.slice (some 1096) 2 ((outS ((bs lv w g s g.length).1.take k) (s.take k)).map Gs.row)) (gss s) s.length k (icells (bs lv w g s g.length).1) k G) (fun k => k ≤ s.length) (fun k => s.length - k) 0 rfl (by simp [outS]) (by omega) ?_
       rintro k hk
       have hok:(outS ((bs lv w g s g.length).1.take k) (s.take k)).length = k:=by
        have:=bs_len (lv:=lv) (w:=w) h2 g.length
        simp [outS];omega
       have hlb:=bs_len (lv:=lv) (w:=w) h2 g.length
       have hTf:=c_r20_total hlb.symm h1 h4 lv
       rw [bs_tot h2 g.length (Nat.le_refl _)] at hTf
       simp +contextual (disch:=omega) [-getElem?_pos,-List.length_eq_zero_iff,-Int.natCast_eq_zero,wrap64,v_r20_Set_b2,hok]
       refine cnd_dec (fun h6 => ?_) (fun h6 => ?_)
       ·have h6:k < s.length:=by omega
        have h7:k < (bs lv w g s g.length).1.length:=by omega
        simp +contextual (disch:=omega) [-getElem?_pos,-List.length_eq_zero_iff,-Int.natCast_eq_zero,wrap64,get_nth (l:=s),icells_get h7,hok]
        refine rnd_next (k + 1) ?_ (by omega) (by omega)
        unfold outS
        rw [zip_snoc h7 h6]
        simp [mkGs]
       ·obtain rfl:k = s.length:=by omega
        have t1:(bs lv w g s g.length).1.take s.length = (bs lv w g s g.length).1:=List.take_of_length_le (by omega)
        rw [t1,List.take_length] at hok ⊢
        simp +contextual (disch:=omega) [-getElem?_pos,-List.length_eq_zero_iff,-Int.natCast_eq_zero,wrap64,hok,hlb,hTf]
        exact hW
     ·have hi:¬ g.length < g.length:=Nat.lt_irrefl _
      simp +contextual (disch:=omega) [-getElem?_pos,-List.length_eq_zero_iff,-Int.natCast_eq_zero,wrap64,v_r20_Set_b1,hlen]
      refine go_loop (fun k:Nat => v_r20_Set_s2 (gts g) lv g.length (.slice (some 1096) 2 ((outS ((bs lv w g s g.length).1.take k) (s.take k)).map Gs.row)) (gss s) s.length k (icells (bs lv w g s g.length).1) k G) (fun k => k ≤ s.length) (fun k => s.length - k) 0 rfl (by simp [outS]) (by omega) ?_
      rintro k hk
      have hok:(outS ((bs lv w g s g.length).1.take k) (s.take k)).length = k:=by
       have:=bs_len (lv:=lv) (w:=w) h2 g.length
       simp [outS];omega
      have hlb:=bs_len (lv:=lv) (w:=w) h2 g.length
      have hTf:=c_r20_total hlb.symm h1 h4 lv
      rw [bs_tot h2 g.length (Nat.le_refl _)] at hTf
      simp +contextual (disch:=omega) [-getElem?_pos,-List.length_eq_zero_iff,-Int.natCast_eq_zero,wrap64,v_r20_Set_b2,hok]
      refine cnd_dec (fun h6 => ?_) (fun h6 => ?_)
      ·have h6:k < s.length:=by omega
       have h7:k < (bs lv w g s g.length).1.length:=by omega
       simp +contextual (disch:=omega) [-getElem?_pos,-List.length_eq_zero_iff,-Int.natCast_eq_zero,wrap64,get_nth (l:=s),icells_get h7,hok]
       refine rnd_next (k + 1) ?_ (by omega) (by omega)
       unfold outS
       rw [zip_snoc h7 h6]
       simp [mkGs]
      ·obtain rfl:k = s.length:=by omega
       have t1:(bs lv w g s g.length).1.take s.length = (bs lv w g s g.length).1:=List.take_of_length_le (by omega)
       rw [t1,List.take_length] at hok ⊢
       simp +contextual (disch:=omega) [-getElem?_pos,-List.length_eq_zero_iff,-Int.natCast_eq_zero,wrap64,hok,hlb,hTf]
       exact hW
   ·have hw3:(decide (0 ≤ w) && decide (w ≤ 1073741824)) = false:=by simp;omega
    have hE:setE g s lv w = 1:=by simp [setE,he];omega
    have hE2:¬ setE g s lv w = 0:=by rw [hE];omega
    simp only [setS,setF,if_neg hE2] at hW
    rw [hE] at hW
    have hw2:(!decide (0 ≤ w) || !decide (w ≤ 1073741824)) = true:=by simp;omega
    simp +contextual (disch:=omega) [-getElem?_pos,-List.length_eq_zero_iff,-Int.natCast_eq_zero,wrap64,v_r20_Set,c_r20_wrong,he,c_r01_In,hw2,hw3]
    exact hW
  ·have hE:setE g s lv w = aE g s lv:=by simp [setE,he]
   have hE2:¬ setE g s lv w = 0:=by rw [hE];exact he
   simp only [setS,setF,if_neg hE2] at hW
   rw [hE] at hW
   simp +contextual (disch:=omega) [-getElem?_pos,-List.length_eq_zero_iff,-Int.natCast_eq_zero,wrap64,v_r20_Set,c_r20_wrong,he]
   exact hW)
end Go.Proofs.YtfjdfnegookkcaaGreat
namespace Go.Proofs.YtfjdfnegookkcaaGreat
set_option linter.all false
open Go.Vm
theorem lstF_or {p:Int → Bool}:∀ {n:Nat} {o:Int},p (lstF p n o) = true ∨ lstF p n o = o + n
 | 0,o => .inr (by simp [lstF])
 | n + 1,o => by
   unfold lstF
   split
   ·rename_i h;exact .inl h
   ·rcases lstF_or (p:=p) (n:=n) (o:=o + 1) with h | h
    ·exact .inl h
    ·refine .inr ?_;omega
theorem bs_most {lv w:Int} {g:List Gt} {s:List Gs} (hl:g.length = s.length) (hs:allG g s) (hv:∀ i,i < g.length → Gv (nth g i)):∀ i,i ≤ g.length →
  w ≤ (bs lv w g s i).2 ∨ (bs lv w g s i).2 = gsum (ghi lv) g s i + (gsum (glo lv) g s g.length - gsum (glo lv) g s i):=by
 intro i
 induction i with
 | zero => intro _;refine .inr ?_;simp only [bs,gsum_zero];omega
 | succ i ih =>
   intro hi
   have ih:=ih (by omega)
   have hr:=rch_ok (hv i (by omega)) (hs i (by omega))
   rw [gsum_succ (f:=ghi lv) (by omega) (by omega),gsum_succ (f:=glo lv) (by omega) (by omega)]
   simp only [bs]
   generalize hS:(bs lv w g s i).2 = S at ih
   by_cases h1:S < w
   ·have ih:S = _:=ih.resolve_left (by omega)
    have ho:opn lv w (nth g i) (nth s i) S = lstF (fun o => decide (w - (S - glo lv (nth g i) (nth s i)) ≤ gfl (nth g i) o lv)) ((rch (nth g i) (nth s i)).hi - (rch (nth g i) (nth s i)).lo).toNat (rch (nth g i) (nth s i)).lo:=by
     unfold opn;rw [if_pos h1]
    rcases lstF_or (p:=fun o => decide (w - (S - glo lv (nth g i) (nth s i)) ≤ gfl (nth g i) o lv)) (n:=((rch (nth g i) (nth s i)).hi - (rch (nth g i) (nth s i)).lo).toNat) (o:=(rch (nth g i) (nth s i)).lo) with h2 | h2
    ·rw [← ho] at h2
     simp only [decide_eq_true_eq] at h2
     refine .inl ?_
     omega
    ·rw [← ho] at h2
     have h3:opn lv w (nth g i) (nth s i) S = (rch (nth g i) (nth s i)).hi:=by omega
     refine .inr ?_
     rw [h3]
     have:gfl (nth g i) (rch (nth g i) (nth s i)).hi lv = ghi lv (nth g i) (nth s i):=rfl
     omega
   ·refine .inl ?_
    have ho:opn lv w (nth g i) (nth s i) S = (rch (nth g i) (nth s i)).lo:=by unfold opn;rw [if_neg h1]
    rw [ho]
    have:gfl (nth g i) (rch (nth g i) (nth s i)).lo lv = glo lv (nth g i) (nth s i):=rfl
    omega
noncomputable def gMost (g:List Gt) (s:List Gs) (lv:Int):Int:=if aE g s lv = 0 then gsum (ghi lv) g s g.length else 0
theorem setF_most (g:List Gt) (s:List Gs) (lv w:Int) (hw:0 ≤ w ∧ w ≤ 1073741824):min w (gMost g s lv) ≤ setF g s lv w:=by
 unfold gMost
 by_cases h:aE g s lv = 0
 ·obtain ⟨h1,h2,h3,h4,h5⟩:=aE_zero h
  have hE:setE g s lv w = 0:=by simp [setE,h,hw]
  have:=bs_most (lv:=lv) (w:=w) h2 h3 h4 g.length (Nat.le_refl _)
  unfold setF
  rw [if_pos h,if_pos hE]
  omega
 ·rw [if_neg h]
  have:setF g s lv w = 0:=by
   unfold setF setE
   rw [if_pos h,if_neg h]
  omega
end Go.Proofs.YtfjdfnegookkcaaGreat
