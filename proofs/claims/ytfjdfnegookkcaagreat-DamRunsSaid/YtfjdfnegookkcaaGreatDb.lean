/- Parts of the proof, joined: Dsp1, Dsp2, Dsp3, Dsp4, Dsp5, Dsp6, Dsp7, Dsp8. -/
import Derived.Test.YtfjdfnegookkcaaGreatDa
namespace Go.Proofs.YtfjdfnegookkcaaGreat
set_option linter.all false
open Go.Vm
attribute [local simp] cond_yes cond_yes2 int_beq int_bne
theorem drop_nth {α:Type} [Inhabited α] {l:List α} {i:Nat} (h:i < l.length):l.drop i = nth l i :: l.drop (i + 1):=by
 rw [List.drop_eq_getElem_cons h]
 simp [nth,List.getD,h]
def lexC:List Int → List Int → Int
 | [],[] => 0
 | [],_ :: _ => -1
 | _ :: _,[] => 1
 | a :: p,b :: q => if a < b then -1 else if b < a then 1 else lexC p q
theorem c_cmp_isNaN (a:Int) (G:List GObj):Lim F 145 [i64 a] G = some (.bool false,G) :=
 eq_of rfl rfl (by simp +contextual (disch:=omega) [-getElem?_pos,-List.length_eq_zero_iff,-Int.natCast_eq_zero,wrap64,v_cmp_isNaN_int])
theorem c_cmp_Compare (a b:Int) (G:List GObj):Lim F 133 [i64 a,i64 b] G = some (i64 (if a < b then -1 else if b < a then 1 else 0),G) :=
 eq_of rfl rfl (by
  by_cases h1:a < b
  ·simp +contextual (disch:=omega) [-getElem?_pos,-List.length_eq_zero_iff,-Int.natCast_eq_zero,wrap64,v_cmp_Compare_int,c_cmp_isNaN,h1]
  ·by_cases h2:b < a
   ·simp +contextual (disch:=omega) [-getElem?_pos,-List.length_eq_zero_iff,-Int.natCast_eq_zero,wrap64,v_cmp_Compare_int,c_cmp_isNaN,h1,h2]
   ·simp +contextual (disch:=omega) [-getElem?_pos,-List.length_eq_zero_iff,-Int.natCast_eq_zero,wrap64,v_cmp_Compare_int,c_cmp_isNaN,h1,h2])
theorem c_Compare (p q:List Int) (hp:p.length ≤ 4294967296) (G:List GObj):Lim F 129 [ints p,ints q] G = some (i64 (lexC p q),G) :=
 eq_of rfl rfl (by
  generalize hW:lexC p q = W
  simp +contextual (disch:=omega) [-getElem?_pos,-List.length_eq_zero_iff,-Int.natCast_eq_zero,wrap64,v_slices_Compare_int_int]
  refine go_loop (fun i:Nat => v_slices_Compare_int_int_s0 (ints p) (ints q) (ints p) p.length i G) (fun i => i ≤ p.length ∧ i ≤ q.length ∧ lexC (p.drop i) (q.drop i) = W) (fun i => p.length - i) 0 rfl (by simp) ⟨by omega,by omega,by simpa using hW⟩ ?_
  rintro i ⟨h1,h2,h3⟩
  simp +contextual (disch:=omega) [-getElem?_pos,-List.length_eq_zero_iff,-Int.natCast_eq_zero,wrap64,v_slices_Compare_int_int_b0]
  refine cnd_dec (fun h4 => ?_) (fun h4 => ?_)
  ·have h4:i < p.length:=by omega
   rw [drop_nth h4] at h3
   by_cases h5:i < q.length
   ·rw [drop_nth h5,lexC] at h3
    have h6:¬q.length ≤ i:=by omega
    by_cases h7:nth p i < nth q i
    ·rw [if_pos h7] at h3
     simp +contextual (disch:=omega) [-getElem?_pos,-List.length_eq_zero_iff,-Int.natCast_eq_zero,wrap64,get_int,c_cmp_Compare,h6,h7]
     exact h3
    ·rw [if_neg h7] at h3
     by_cases h8:nth q i < nth p i
     ·rw [if_pos h8] at h3
      simp +contextual (disch:=omega) [-getElem?_pos,-List.length_eq_zero_iff,-Int.natCast_eq_zero,wrap64,get_int,c_cmp_Compare,h6,h7,h8]
      exact h3
     ·rw [if_neg h8] at h3
      simp +contextual (disch:=omega) [-getElem?_pos,-List.length_eq_zero_iff,-Int.natCast_eq_zero,wrap64,get_int,c_cmp_Compare,h6,h7,h8]
      exact rnd_next (i + 1) (by simp) ⟨by omega,by omega,h3⟩ (by omega)
   ·obtain rfl:i = q.length:=by omega
    rw [List.drop_length,lexC] at h3
    simp +contextual (disch:=omega) [-getElem?_pos,-List.length_eq_zero_iff,-Int.natCast_eq_zero,wrap64,get_int]
    exact h3
  ·obtain rfl:i = p.length:=by omega
   rw [List.drop_length] at h3
   refine cnd_dec (fun h5 => ?_) (fun h5 => ?_)
   ·have h6:p.length < q.length:=by omega
    rw [drop_nth h6,lexC] at h3
    exact h3
   ·obtain h6:q.drop p.length = []:=List.drop_eq_nil_iff.2 (by omega)
    rw [h6,lexC] at h3
    exact h3)
abbrev duo (a:Int × Int):V:=.agg [i64 a.1,i64 a.2]
def betP (a b:Int × Int) (p q:List Int):Prop:=if a.1 ≠ b.1 then b.1 < a.1 else if a.2 ≠ b.2 then a.2 < b.2 else lexC p q < 0
instance {a b:Int × Int} {p q:List Int}:Decidable (betP a b p q):=by unfold betP;infer_instance
theorem c_dispatch_Better (a b:Int × Int) (p q:List Int) (hp:p.length ≤ 4294967296) (G:List GObj):Lim F 119 [duo a,duo b,ints p,ints q] G = some (.bool (decide (betP a b p q)),G) :=
 eq_of rfl rfl (by
  generalize hW:decide (betP a b p q) = W
  simp only [betP] at hW
  obtain ⟨a1,a2⟩:=a
  obtain ⟨b1,b2⟩:=b
  simp only at hW
  by_cases h1:a1 = b1
  ·by_cases h2:a2 = b2
   ·simp +contextual (disch:=omega) [-getElem?_pos,-List.length_eq_zero_iff,-Int.natCast_eq_zero,wrap64,v_dispatch_Better,c_Compare p q hp,h1,h2]
    simpa [h1,h2] using hW
   ·simp +contextual (disch:=omega) [-getElem?_pos,-List.length_eq_zero_iff,-Int.natCast_eq_zero,wrap64,v_dispatch_Better,h1,h2]
    simpa [h1,h2] using hW
  ·simp +contextual (disch:=omega) [-getElem?_pos,-List.length_eq_zero_iff,-Int.natCast_eq_zero,wrap64,v_dispatch_Better,h1]
   simpa [h1] using hW)
theorem c_r19_before (p q:List Int) (hp:p.length ≤ 4294967296) (G:List GObj):Lim F 126 [ints p,ints q] G = some (.bool (decide (lexC p q < 0)),G) :=
 eq_of rfl rfl (by
  generalize hW:lexC p q = W
  simp +contextual (disch:=omega) [-getElem?_pos,-List.length_eq_zero_iff,-Int.natCast_eq_zero,wrap64,v_r19_before]
  refine go_loop (fun i:Nat => v_r19_before_s0 (ints p) (ints q) p.length i G) (fun i => i ≤ p.length ∧ i ≤ q.length ∧ lexC (p.drop i) (q.drop i) = W) (fun i => p.length - i) 0 rfl (by simp) ⟨by omega,by omega,by simpa using hW⟩ ?_
  rintro i ⟨h1,h2,h3⟩
  simp +contextual (disch:=omega) [-getElem?_pos,-List.length_eq_zero_iff,-Int.natCast_eq_zero,wrap64,v_r19_before_b0]
  refine cnd_dec (fun h4 => ?_) (fun h4 => ?_)
  ·have h4:i < p.length:=by omega
   rw [drop_nth h4] at h3
   by_cases h5:i < q.length
   ·rw [drop_nth h5,lexC] at h3
    have h6:¬q.length ≤ i:=by omega
    by_cases h7:nth p i < nth q i
    ·rw [if_pos h7] at h3
     have h9:¬nth p i = nth q i:=by omega
     subst h3
     simp +contextual (disch:=omega) [-getElem?_pos,-List.length_eq_zero_iff,-Int.natCast_eq_zero,wrap64,get_int,h6,h7,h9,h5]
    ·rw [if_neg h7] at h3
     by_cases h8:nth q i < nth p i
     ·rw [if_pos h8] at h3
      have h9:¬nth p i = nth q i:=by omega
      subst h3
      simp +contextual (disch:=omega) [-getElem?_pos,-List.length_eq_zero_iff,-Int.natCast_eq_zero,wrap64,get_int,h6,h7,h9,h5]
     ·rw [if_neg h8] at h3
      have h9:nth p i = nth q i:=by omega
      simp +contextual (disch:=omega) [-getElem?_pos,-List.length_eq_zero_iff,-Int.natCast_eq_zero,wrap64,get_int,h6,h9,h5]
      exact rnd_next (i + 1) (by simp) ⟨by omega,by omega,h3⟩ (by omega)
   ·obtain rfl:i = q.length:=by omega
    rw [List.drop_length,lexC] at h3
    subst h3
    simp +contextual (disch:=omega) [-getElem?_pos,-List.length_eq_zero_iff,-Int.natCast_eq_zero,wrap64,get_int]
  ·obtain rfl:i = p.length:=by omega
   rw [List.drop_length] at h3
   by_cases h6:p.length < q.length
   ·rw [drop_nth h6,lexC] at h3
    subst h3
    simp [h6]
   ·have h7:q.drop p.length = []:=List.drop_eq_nil_iff.2 (by omega)
    rw [h7,lexC] at h3
    subst h3
    simp
    omega)
theorem c_r19_Better (a b:Int × Int) (p q:List Int) (hp:p.length ≤ 4294967296) (G:List GObj):Lim F 112 [duo a,duo b,ints p,ints q] G = some (.bool (decide (betP a b p q)),G) :=
 eq_of rfl rfl (by
  generalize hW:decide (betP a b p q) = W
  simp only [betP] at hW
  obtain ⟨a1,a2⟩:=a
  obtain ⟨b1,b2⟩:=b
  simp only at hW
  by_cases h1:a1 = b1
  ·by_cases h2:a2 = b2
   ·simp +contextual (disch:=omega) [-getElem?_pos,-List.length_eq_zero_iff,-Int.natCast_eq_zero,wrap64,v_r19_Better,c_r19_before p q hp,h1,h2]
    simpa [h1,h2] using hW
   ·simp +contextual (disch:=omega) [-getElem?_pos,-List.length_eq_zero_iff,-Int.natCast_eq_zero,wrap64,v_r19_Better,h1,h2]
    simpa [h1,h2] using hW
  ·simp +contextual (disch:=omega) [-getElem?_pos,-List.length_eq_zero_iff,-Int.natCast_eq_zero,wrap64,v_r19_Better,h1]
   simpa [h1] using hW)
end Go.Proofs.YtfjdfnegookkcaaGreat
namespace Go.Proofs.YtfjdfnegookkcaaGreat
set_option linter.all false
open Go.Vm
attribute [local simp] cond_yes cond_yes2 int_beq int_bne
def canP (u:Un) (s:Us) (q:Int):Prop:=validP u s ∧ mayP u s q
noncomputable instance {u:Un} {s:Us} {q:Int}:Decidable (canP u s q):=by unfold canP;infer_instance
def stt (s:Us) (q:Int):Int:=if 0 < q ∧ s.flow = 0 then 1 else 0
noncomputable def valR:List Un → List Us → List Int → Int × Int × Int → Option (Int × Int × Int)
 | u :: us,s :: ss,f :: fs,a => if canP u s f then valR us ss fs (a.1 + f,a.2.1 + pow u f,a.2.2 + stt s f) else none
 | _,_,_,a => some a
noncomputable def valO (us:List Un) (ss:List Us) (fs:List Int):Option (Int × Int × Int):=if us.length = ss.length ∧ us.length = fs.length then valR us ss fs (0,0,0) else none
def valV:Option (Int × Int × Int) → V
 | some (a,b,c) => .tuple [i64 a,i64 b,i64 c,.bool true]
 | none => .tuple [i64 0,i64 0,i64 0,.bool false]
theorem can_range {u:Un} {s:Us} {q:Int} (h:canP u s q):0 ≤ q ∧ q ≤ 1073741824:=by
 obtain ⟨⟨hc,_⟩,h2⟩:=h
 have hu:=uv_of hc
 have:=hu.least
 have:=hu.most'
 unfold mayP at h2
 split at h2
 ·omega
 ·have a:=h2.2.2.1
  have b:=h2.2.2.2.1
  omega
theorem pow_range {u:Un} {q:Int}:0 ≤ pow u q ∧ pow u q ≤ 1073741824:=by
 unfold pow
 split
 ·rename_i h
  have hu:=uv_of h.1
  have hp:=hu.cv.pos
  have a:=cval_range hu.cv q
  have b:=hu.top
  have c:=(hu.cv.y0 0 (by omega)).1
  omega
 ·omega
theorem stt_range {s:Us} {q:Int}:0 ≤ stt s q ∧ stt s q ≤ 1:=by unfold stt;split <;> omega
theorem c_r19_Value (us:List Un) (ss:List Us) (fs:List Int) (hn:us.length ≤ 1000) (G:List GObj):Lim F 95 [uns us,sts ss,ints fs] G = some (valV (valO us ss fs),G) :=
 eq_of rfl rfl (by
  generalize hW:valV (valO us ss fs) = W
  unfold valO at hW
  by_cases h1:us.length = ss.length
  ·by_cases h2:us.length = fs.length
   ·rw [if_pos ⟨h1,h2⟩] at hW
    simp +contextual (disch:=omega) [-getElem?_pos,-List.length_eq_zero_iff,-Int.natCast_eq_zero,wrap64,v_r19_Value,← h1,← h2]
    refine go_loop (fun x:Nat × Int × Int × Int => v_r19_Value_s0 (sts ss) (ints fs) x.2.1 x.2.2.1 x.2.2.2 (uns us) us.length x.1 G)
     (fun x => x.1 ≤ us.length ∧ valV (valR (us.drop x.1) (ss.drop x.1) (fs.drop x.1) (x.2.1,x.2.2.1,x.2.2.2)) = W ∧ (0 ≤ x.2.1 ∧ x.2.1 ≤ 1073741824 * (x.1:Int)) ∧ (0 ≤ x.2.2.1 ∧ x.2.2.1 ≤ 1073741824 * (x.1:Int)) ∧ 0 ≤ x.2.2.2 ∧ x.2.2.2 ≤ x.1) (fun x => us.length - x.1) (0,0,0,0) rfl (by simp) (by simpa using hW) ?_
    rintro ⟨i,a,b,c⟩ ⟨hi,hq,ha,hb,hc⟩
    simp only at hi hq ha hb hc
    simp +contextual (disch:=omega) [-getElem?_pos,-List.length_eq_zero_iff,-Int.natCast_eq_zero,wrap64,v_r19_Value_b0]
    refine cnd_dec (fun h4 => ?_) (fun h4 => ?_)
    ·have h4:i < us.length:=by omega
     have h5:i < ss.length:=by omega
     have h6:i < fs.length:=by omega
     rw [drop_nth h4,drop_nth h5,drop_nth h6,valR] at hq
     by_cases h7:canP (nth us i) (nth ss i) (nth fs i)
     ·rw [if_pos h7] at hq
      have r1:=can_range h7
      have r2:=pow_range (u:=nth us i) (q:=nth fs i)
      have r3:=stt_range (s:=nth ss i) (q:=nth fs i)
      have h8:decide (validP (nth us i) (nth ss i) ∧ mayP (nth us i) (nth ss i) (nth fs i)) = true:=decide_eq_true h7
      simp only at hq
      have nxt:i + 1 ≤ us.length ∧ valV (valR (us.drop (i + 1)) (ss.drop (i + 1)) (fs.drop (i + 1)) (a + nth fs i,b + pow (nth us i) (nth fs i),c + stt (nth ss i) (nth fs i))) = W ∧
        (0 ≤ a + nth fs i ∧ a + nth fs i ≤ 1073741824 * ((i + 1:Nat):Int)) ∧ (0 ≤ b + pow (nth us i) (nth fs i) ∧ b + pow (nth us i) (nth fs i) ≤ 1073741824 * ((i + 1:Nat):Int)) ∧ 0 ≤ c + stt (nth ss i) (nth fs i) ∧ c + stt (nth ss i) (nth fs i) ≤ (i + 1:Nat) :=
       ⟨by omega,hq,by omega,by omega,by omega⟩
      have hN:=c_r18_Next (nth us i) (nth ss i) (nth fs i) []
      have e:nextE (nth us i) (nth ss i) (nth fs i) = 0:=by
       obtain ⟨⟨q1,q2⟩,q3⟩:=h7
       simp [nextE,q1,q3,show validP (nth us i) (nth ss i) from ⟨q1,q2⟩]
      simp only [e,if_true] at hN
      by_cases h9:0 < nth fs i
      ·by_cases h10:(nth ss i).flow = 0
       ·have h11:stt (nth ss i) (nth fs i) = 1:=by simp [stt,h9,h10]
        simp +contextual (disch:=omega) [-getElem?_pos,-List.length_eq_zero_iff,-Int.natCast_eq_zero,wrap64,get_nth (l:=us),get_nth (l:=ss),get_int,hN,c_r18_Power,h9]
        simp +contextual (disch:=omega) [-getElem?_pos,-List.length_eq_zero_iff,-Int.natCast_eq_zero,wrap64,h10]
        exact rnd_next (i + 1,a + nth fs i,b + pow (nth us i) (nth fs i),c + stt (nth ss i) (nth fs i)) (by simp [h11]) nxt (by simp;omega)
       ·have h11:stt (nth ss i) (nth fs i) = 0:=by simp [stt,h10]
        simp +contextual (disch:=omega) [-getElem?_pos,-List.length_eq_zero_iff,-Int.natCast_eq_zero,wrap64,get_nth (l:=us),get_nth (l:=ss),get_int,hN,c_r18_Power,h9]
        simp +contextual (disch:=omega) [-getElem?_pos,-List.length_eq_zero_iff,-Int.natCast_eq_zero,wrap64,h10]
        exact rnd_next (i + 1,a + nth fs i,b + pow (nth us i) (nth fs i),c + stt (nth ss i) (nth fs i)) (by simp [h11]) nxt (by simp;omega)
      ·have h11:stt (nth ss i) (nth fs i) = 0:=by simp [stt,h9]
       simp +contextual (disch:=omega) [-getElem?_pos,-List.length_eq_zero_iff,-Int.natCast_eq_zero,wrap64,get_nth (l:=us),get_nth (l:=ss),get_int,hN,c_r18_Power,h9]
       exact rnd_next (i + 1,a + nth fs i,b + pow (nth us i) (nth fs i),c + stt (nth ss i) (nth fs i)) (by simp [h11]) nxt (by simp;omega)
     ·rw [if_neg h7] at hq
      have hN:=c_r18_Next (nth us i) (nth ss i) (nth fs i) []
      have e:¬nextE (nth us i) (nth ss i) (nth fs i) = 0:=fun e => by
       unfold nextE at e
       split at e
       ·contradiction
       ·split at e
        ·cases e
        ·split at e
         ·cases e
         ·rename_i a1 a2 a3
          exact h7 ⟨Decidable.of_not_not a2,Decidable.of_not_not a3⟩
      simp only [e,if_false] at hN
      simp +contextual (disch:=omega) [-getElem?_pos,-List.length_eq_zero_iff,-Int.natCast_eq_zero,wrap64,get_nth (l:=us),get_nth (l:=ss),get_int,hN,e]
      exact hq
    ·obtain rfl:i = us.length:=by omega
     rw [List.drop_length,valR] at hq
     ·exact hq
     ·intro u us' s ss' f fs' e;cases e
   ·rw [if_neg (fun h => h2 h.2)] at hW
    have h3:¬ss.length = fs.length:=by omega
    simp +contextual (disch:=omega) [-getElem?_pos,-List.length_eq_zero_iff,-Int.natCast_eq_zero,wrap64,v_r19_Value,h1]
    refine cnd_bool (fun h => ?_) (fun h => ?_)
    ·exact hW
    ·simp [-List.length_eq_zero_iff,-Int.natCast_eq_zero] at h
     omega
  ·rw [if_neg (fun h => h1 h.1)] at hW
   simp +contextual (disch:=omega) [-getElem?_pos,-List.length_eq_zero_iff,-Int.natCast_eq_zero,wrap64,v_r19_Value]
   refine cnd_bool (fun h => ?_) (fun h => ?_)
   ·exact hW
   ·simp [-List.length_eq_zero_iff,-Int.natCast_eq_zero] at h
    omega)
end Go.Proofs.YtfjdfnegookkcaaGreat
namespace Go.Proofs.YtfjdfnegookkcaaGreat
set_option linter.all false
open Go.Vm
attribute [local simp] cond_yes cond_yes2 int_beq int_bne
noncomputable def chs (u:Un) (s:Us) (g:Int):List Int:=(dedup (sortI (goods u g ++ [0,s.flow]))).filter fun q => decide (canP u s q)
noncomputable abbrev crow (u:Un) (s:Us) (q:Int):List V:=[i64 q,i64 (pow u q),i64 (stt s q)]
theorem take_snoc {α:Type} [Inhabited α] {l:List α} {i:Nat} (h:i < l.length):l.take (i + 1) = l.take i ++ [nth l i]:=by
 rw [List.take_add_one,get_nth h];rfl
theorem nth_left {α:Type} [Inhabited α] {l m:List α} {i:Nat} (h:i < l.length):nth (l ++ m) i = nth l i:=by
 simp [nth,List.getElem?_append,h]
theorem choices_l0 {u:Un} {s:Us} {L Z:List Int} {G:List GObj} {K:Post} (hL:L.length ≤ 4294967296)
  (hK:∀ z,K (.exit 0) ⟨[(3,.lptr 3 0),(4,.lptr 4 0),(10,.slice (some 1061) 3 ((L.filter fun q => decide (canP u s q)).map (crow u s))),(30,.lref 20026 1 L.length),(31,i64 L.length),(32,i64 L.length),(33,z)],[(3,u.row),(4,s.row),(20026,icells (L ++ Z))],[(1061,(L.filter fun q => decide (canP u s q)).length)],G⟩) :
  go (Lim F) v_dispatch_choices_l0 ⟨[(3,.lptr 3 0),(4,.lptr 4 0),(10,.nils),(30,.lref 20026 1 L.length),(31,i64 L.length),(32,i64 0)],[(3,u.row),(4,s.row),(20026,icells (L ++ Z))],[],G⟩ K:=by
 refine go_loop (fun i:Nat => v_dispatch_choices_s0 (.slice (some 1061) 3 (((L.take i).filter fun q => decide (canP u s q)).map (crow u s))) L.length L.length i u.row s.row (icells (L ++ Z)) ((L.take i).filter fun q => decide (canP u s q)).length G) (fun i => i ≤ L.length) (fun i => L.length - i) 0 rfl (by simp) (by omega) ?_
 intro i hi
 have hlen:((L.take i).filter fun q => decide (canP u s q)).length ≤ i:=Nat.le_trans (List.length_filter_le _ _) (by simp;omega)
 simp +contextual (disch:=omega) [-getElem?_pos,-List.length_eq_zero_iff,-Int.natCast_eq_zero,wrap64,v_dispatch_choices_b0]
 refine cnd_dec (fun h1 => ?_) (fun h1 => ?_)
 ·have h1:i < L.length:=by omega
  have h2:i < (L ++ Z).length:=by simp;omega
  have hM:=c_unit_May u s (nth L i) []
  by_cases h3:canP u s (nth L i)
  ·have h4:decide (validP u s ∧ mayP u s (nth L i)) = true:=decide_eq_true h3
   rw [h4] at hM
   have h5:(L.take (i + 1)).filter (fun q => decide (canP u s q)) = (L.take i).filter (fun q => decide (canP u s q)) ++ [nth L i]:=by
    rw [take_snoc h1,List.filter_append]
    simp [h3]
   by_cases h6:0 < nth L i
   ·by_cases h7:s.flow = 0
    ·have h8:stt s (nth L i) = 1:=by simp [stt,h6,h7]
     simp +contextual (disch:=omega) [-getElem?_pos,-List.length_eq_zero_iff,-Int.natCast_eq_zero,wrap64,icells_get h2,nth_left h1,hM,c_unit_Power,h6]
     simp +contextual (disch:=omega) [-getElem?_pos,-List.length_eq_zero_iff,-Int.natCast_eq_zero,wrap64,h7]
     exact rnd_next (i + 1) (by rw [h5];simp [h8]) (by omega) (by omega)
    ·have h8:stt s (nth L i) = 0:=by simp [stt,h7]
     simp +contextual (disch:=omega) [-getElem?_pos,-List.length_eq_zero_iff,-Int.natCast_eq_zero,wrap64,icells_get h2,nth_left h1,hM,c_unit_Power,h6]
     simp +contextual (disch:=omega) [-getElem?_pos,-List.length_eq_zero_iff,-Int.natCast_eq_zero,wrap64,h7]
     exact rnd_next (i + 1) (by rw [h5];simp [h8]) (by omega) (by omega)
   ·have h8:stt s (nth L i) = 0:=by simp [stt,h6]
    simp +contextual (disch:=omega) [-getElem?_pos,-List.length_eq_zero_iff,-Int.natCast_eq_zero,wrap64,icells_get h2,nth_left h1,hM,c_unit_Power,h6]
    exact rnd_next (i + 1) (by rw [h5];simp [h8]) (by omega) (by omega)
  ·have h4:decide (validP u s ∧ mayP u s (nth L i)) = false:=decide_eq_false h3
   rw [h4] at hM
   have h5:(L.take (i + 1)).filter (fun q => decide (canP u s q)) = (L.take i).filter (fun q => decide (canP u s q)):=by
    rw [take_snoc h1,List.filter_append]
    simp [h3]
   simp +contextual (disch:=omega) [-getElem?_pos,-List.length_eq_zero_iff,-Int.natCast_eq_zero,wrap64,icells_get h2,nth_left h1,hM]
   exact rnd_next (i + 1) (by rw [h5];simp) (by omega) (by omega)
 ·obtain rfl:i = L.length:=by omega
  rw [List.take_length]
  exact hK _
theorem c_choices {u:Un} {s:Us} (hv:validP u s) {g:Int} (hg:1 ≤ g ∧ g ≤ 1073741824) (G:List GObj):Lim F 106 [un u,us s,i64 g] G =
  some (if flE u g = 0 then .tuple [.slice (some 0) 3 ((chs u s g).map (crow u s)),.bool true] else .tuple [.slice (some 0) 3 [],.bool false],G) :=
 eq_of rfl rfl (by
  by_cases he:flE u g = 0
  ·have hlen:(goods u g).length ≤ 200:=by
    unfold flE at he
    split at he
    ·contradiction
    ·split at he
     ·cases he
     ·split at he
      ·cases he
      ·omega
   have hf:fls u g = goods u g:=by simp [fls,he]
   have hd:=dedup_len (sortI (goods u g ++ [0,s.flow]))
   have hs:=(sortI_perm (goods u g ++ [0,s.flow])).length_eq
   simp at hs
   have hm:mutF 1 (sortI (goods u g ++ [0,s.flow])) = dedup (sortI (goods u g ++ [0,s.flow])) ++ List.replicate ((sortI (goods u g ++ [0,s.flow])).length - (dedup (sortI (goods u g ++ [0,s.flow]))).length) 0:=rfl
   have hm0:∀ l,mutF 0 l = sortI l:=fun _ => rfl
   have hc:(chs u s g) = (dedup (sortI (goods u g ++ [0,s.flow]))).filter fun q => decide (canP u s q):=rfl
   rw [if_pos he,hc]
   have ha:∀ l:List Int,icells l ++ [i64 0,i64 s.flow] = icells (l ++ [0,s.flow]):=fun l => by simp [icells]
   have hz:[i64 0,i64 s.flow] = icells [0,s.flow]:=rfl
   have hl2:(goods u g).length + 2 = (goods u g ++ [0,s.flow]).length:=by simp
   have hl3:(sortI (goods u g ++ [0,s.flow])).length = (goods u g ++ [0,s.flow]).length:=(sortI_perm _).length_eq
   by_cases hn:goods u g = []
   ·rw [hn] at hm hd hs hf hl3 ⊢
    simp only [List.nil_append] at hm hd hs hl3 ⊢
    have e1:ownV 20026 0 (.tuple [own [],i64 0]) = some (.tuple [.zed 1,i64 0],none):=rfl
    have h2:2 = (sortI [0,s.flow]).length:=by rw [hl3];rfl
    simp +contextual (disch:=omega) [-getElem?_pos,-List.length_eq_zero_iff,-Int.natCast_eq_zero,wrap64,v_dispatch_choices,c_unit_Flows,he,hf,e1,hz,mutC_ints (zs:=[0,s.flow]) (n:=2) rfl (by omega),hm0,mutC_ints h2 (by omega),hm]
    refine choices_l0 (u:=u) (s:=s) (L:=dedup (sortI [0,s.flow])) (by omega) fun z => ?_
    simp +contextual (disch:=omega) [-getElem?_pos,-List.length_eq_zero_iff,-Int.natCast_eq_zero,wrap64,wrap64]
   ·have e1:=ownV_ints (id:=20026) (t:=0) (e:=0) hn
    rw [← hl2] at hl3
    simp +contextual (disch:=omega) [-getElem?_pos,-List.length_eq_zero_iff,-Int.natCast_eq_zero,wrap64,v_dispatch_choices,c_unit_Flows,he,hf,e1,ha,mutC_ints hl2 (by omega),hm0,mutC_ints hl3.symm (by omega),hm]
    refine choices_l0 (u:=u) (s:=s) (L:=dedup (sortI (goods u g ++ [0,s.flow]))) (by omega) fun z => ?_
    simp +contextual (disch:=omega) [-getElem?_pos,-List.length_eq_zero_iff,-Int.natCast_eq_zero,wrap64,wrap64]
  ·rw [if_neg he]
   have hf:fls u g = []:=by simp [fls,he]
   have e1:ownV 20026 0 (.tuple [own [],i64 (flE u g)]) = some (.tuple [.zed 1,i64 (flE u g)],none):=rfl
   simp +contextual (disch:=omega) [-getElem?_pos,-List.length_eq_zero_iff,-Int.natCast_eq_zero,wrap64,v_dispatch_choices,c_unit_Flows,he,hf,e1])
end Go.Proofs.YtfjdfnegookkcaaGreat
namespace Go.Proofs.YtfjdfnegookkcaaGreat
set_option linter.all false
open Go.Vm
attribute [local simp] cond_yes cond_yes2 int_beq int_bne
def allV (us:List Un) (ss:List Us):Prop:=∀ i,i < us.length → validP (nth us i) (nth ss i)
noncomputable instance {us:List Un} {ss:List Us}:Decidable (allV us ss):=Classical.propDecidable _
def allF (us:List Un) (g:Int):Prop:=∀ i,i < us.length → flE (nth us i) g = 0
noncomputable instance {us:List Un} {g:Int}:Decidable (allF us g):=Classical.propDecidable _
noncomputable def stE (us:List Un) (ss:List Us) (g release:Int):Int :=
 if 6 < us.length then 10 else if us.length ≠ ss.length then 3 else if ¬allV us ss then 3
 else if g < 1 ∨ 1073741824 < g ∨ release < 0 ∨ 1073741824 < release then 1 else if 200 * g < release then 10 else if ¬allF us g then 10 else 0
noncomputable abbrev ccell (g:Int) (u:Un) (s:Us):List V:=[.slice none 3 ((chs u s g).map (crow u s))]
theorem zip_snoc {α β γ:Type} [Inhabited α] [Inhabited β] {f:α → β → γ} {a:List α} {b:List β} {i:Nat} (h1:i < a.length) (h2:i < b.length) :
  List.zipWith f (a.take (i + 1)) (b.take (i + 1)) = List.zipWith f (a.take i) (b.take i) ++ [f (nth a i) (nth b i)]:=by
 rw [take_snoc h1,take_snoc h2,List.zipWith_append (by simp;omega)]
 rfl
theorem c_station (us:List Un) (ss:List Us) (g release:Int) (G:List GObj):Lim F 83 [uns us,sts ss,i64 g,i64 release] G =
  some (.tuple [.slice (some 0) 1 (if stE us ss g release = 0 then List.zipWith (ccell g) us ss else []),i64 (stE us ss g release)],G) :=
 eq_of rfl rfl (by
  generalize hE:stE us ss g release = E
  generalize hW:V.tuple [.slice (some 0) 1 (if E = 0 then List.zipWith (ccell g) us ss else []),i64 E] = W
  unfold stE at hE
  simp +contextual (disch:=omega) [-getElem?_pos,-List.length_eq_zero_iff,-Int.natCast_eq_zero,wrap64,v_dispatch_station]
  refine cnd_dec (fun h1 => ?_) (fun h1 => cnd_bool (fun h2 => ?_) (fun h2 => ?_))
  ·rw [if_pos (by omega)] at hE
   subst hE
   exact hW
  ·simp [-List.length_eq_zero_iff,-Int.natCast_eq_zero] at h2
   rw [if_neg (by omega),if_pos (by omega)] at hE
   subst hE
   exact hW
  ·simp [-List.length_eq_zero_iff,-Int.natCast_eq_zero] at h2
   have hl:us.length = ss.length:=by omega
   rw [if_neg (by omega),if_neg (by omega)] at hE
   refine go_loop (fun i:Nat => v_dispatch_station_s0 (uns us) (sts ss) g release (uns us) us.length i G) (fun i => i ≤ us.length ∧ ∀ j,j < i → validP (nth us j) (nth ss j)) (fun i => us.length - i) 0 rfl (by simp) ⟨by omega,by omega⟩ ?_
   rintro i ⟨hi,hv⟩
   simp +contextual (disch:=omega) [-getElem?_pos,-List.length_eq_zero_iff,-Int.natCast_eq_zero,wrap64,v_dispatch_station_b0]
   refine cnd_dec (fun h3 => ?_) (fun h3 => ?_)
   ·have h3:i < us.length:=by omega
    by_cases h4:validP (nth us i) (nth ss i)
    ·simp +contextual (disch:=omega) [-getElem?_pos,-List.length_eq_zero_iff,-Int.natCast_eq_zero,wrap64,get_nth (l:=us),get_nth (l:=ss),c_unit_Valid,h4]
     refine rnd_next (i + 1) (by simp) ⟨by omega,fun j hj => ?_⟩ (by omega)
     rcases Nat.lt_or_ge j i with h5 | h5
     ·exact hv j h5
     ·rwa [show j = i by omega]
    ·rw [if_pos (fun h => h4 (h i h3))] at hE
     subst hE
     simp +contextual (disch:=omega) [-getElem?_pos,-List.length_eq_zero_iff,-Int.natCast_eq_zero,wrap64,get_nth (l:=us),get_nth (l:=ss),c_unit_Valid,h4]
     exact hW
   ·obtain rfl:i = us.length:=by omega
    rw [if_neg (fun h => h hv)] at hE
    by_cases h5:g < 1 ∨ 1073741824 < g
    ·rw [if_pos (by omega)] at hE
     subst hE
     have h6:(decide (g < 1) || decide (1073741824 < g)) = true:=by simpa using h5
     simp +contextual (disch:=omega) [-getElem?_pos,-List.length_eq_zero_iff,-Int.natCast_eq_zero,wrap64,c_quantity_Within,h6]
     exact hW
    ·have h6:(decide (g < 1) || decide (1073741824 < g)) = false:=by simpa using h5
     by_cases h7:release < 0 ∨ 1073741824 < release
     ·rw [if_pos (by omega)] at hE
      subst hE
      have h8:(!decide (0 ≤ release) || !decide (release ≤ 1073741824)) = true:=by simp;omega
      simp +contextual (disch:=omega) [-getElem?_pos,-List.length_eq_zero_iff,-Int.natCast_eq_zero,wrap64,c_quantity_Within,h6,h8]
      exact hW
     ·rw [if_neg (by omega)] at hE
      have h8:(!decide (0 ≤ release) || !decide (release ≤ 1073741824)) = false:=by simp;omega
      simp +contextual (disch:=omega) [-getElem?_pos,-List.length_eq_zero_iff,-Int.natCast_eq_zero,wrap64,c_quantity_Within,h6,h8]
      refine cnd_dec (fun h9 => ?_) (fun h9 => ?_)
      ·rw [if_pos h9] at hE
       subst hE
       exact hW
      ·rw [if_neg h9] at hE
       refine go_loop (fun i:Nat => v_dispatch_station_s1 (sts ss) g (.slice (some 1079) 1 (List.zipWith (ccell g) (us.take i) (ss.take i))) (uns us) us.length i i G)
        (fun i => i ≤ us.length ∧ ∀ j,j < i → flE (nth us j) g = 0) (fun i => us.length - i) 0 rfl (by simp) ⟨by omega,by omega⟩ ?_
       rintro i ⟨hi,hf⟩
       simp +contextual (disch:=omega) [-getElem?_pos,-List.length_eq_zero_iff,-Int.natCast_eq_zero,wrap64,v_dispatch_station_b1]
       refine cnd_dec (fun h3 => ?_) (fun h3 => ?_)
       ·have h3:i < us.length:=by omega
        have h10:i < ss.length:=by omega
        have hC:=c_choices (hv i h3) (g:=g) (by omega) []
        by_cases h4:flE (nth us i) g = 0
        ·rw [if_pos h4] at hC
         simp +contextual (disch:=omega) [-getElem?_pos,-List.length_eq_zero_iff,-Int.natCast_eq_zero,wrap64,get_nth (l:=us),get_nth (l:=ss),hC]
         refine rnd_next (i + 1) ?_ ⟨by omega,fun j hj => ?_⟩ (by omega)
         ·rw [zip_snoc h3 h10];simp
         rcases Nat.lt_or_ge j i with h5 | h5
         ·exact hf j h5
         ·rwa [show j = i by omega]
        ·rw [if_neg h4] at hC
         rw [if_pos (fun h => h4 (h i h3))] at hE
         subst hE
         simp +contextual (disch:=omega) [-getElem?_pos,-List.length_eq_zero_iff,-Int.natCast_eq_zero,wrap64,get_nth (l:=us),get_nth (l:=ss),hC]
         exact hW
       ·obtain rfl:i = us.length:=by omega
        rw [if_neg (fun h => h hf)] at hE
        subst hE
        rw [List.take_length,List.take_of_length_le (by omega)]
        simp [← hW,hl])
end Go.Proofs.YtfjdfnegookkcaaGreat
namespace Go.Proofs.YtfjdfnegookkcaaGreat
set_option linter.all false
open Go.Vm
attribute [local simp] cond_yes cond_yes2 int_beq int_bne
structure Ch where
 flow:Int
 power:Int
 starts:Int
 deriving Inhabited
abbrev Ch.row (c:Ch):List V:=[i64 c.flow,i64 c.power,i64 c.starts]
abbrev chl (l:List Ch):List V:=[.slice none 3 (l.map Ch.row)]
abbrev Part:=Option (Int × Int × Int)
def partL:Part → List V
 | none => [.bool false,i64 0,i64 0,i64 0]
 | some (p,s,f) => [.bool true,i64 p,i64 s,i64 f]
@[simp] theorem partL_men {p:Part} {d:Nat}:((partL p).all fun v => !v.men0 d) = true:=by
 cases p with
 | none => rfl
 | some q => rfl
abbrev partV (p:Part):V:=.agg (partL p)
def upd (rest:Int → Part) (left:Int) (c:Ch) (out:Part):Part:=match rest (left - c.flow) with
 | none => out
 | some (p,s,_) => match out with
   | none => some (p + c.power,s + c.starts,c.flow)
   | some (q,t,f) => if betP (p + c.power,s + c.starts) (q,t) [] [] then some (p + c.power,s + c.starts,c.flow) else some (q,t,f)
def bstL (rest:Int → Part) (left:Int):List Ch → Part → Part
 | [],out => out
 | c :: cs,out => if left < c.flow then out else bstL rest left cs (upd rest left c out)
def bst:List (List Ch) → Int → Part
 | [],_ => some (0,0,0)
 | l :: ls,left => bstL (bst ls) left l none
def recF:List (List Ch) → Int → Option (List Int)
 | [],_ => some []
 | l :: ls,left => match bst (l :: ls) left with
   | none => none
   | some (_,_,f) => (recF ls (left - f)).map (f :: ·)
abbrev Memo:=List ((Int × Int) × Part)
def menc (m:Memo):List (V × V):=m.map fun e => (.agg [i64 e.1.1,i64 e.1.2],partV e.2)
def mok (LL:List (List Ch)) (m:Memo):Prop:=∀ e ∈ m,∃ i:Nat,e.1.1 = i ∧ e.2 = bst (LL.drop i) e.1.2
def gl (n:Nat) (LL:List (List Ch)) (m:Memo):List GObj:=[.cells [.slice none 1 (LL.map chl)],.map (menc m),.cells [.map 1],.cells [.fn n [.gptr 0 0,.gptr 2 0,.gptr 3 0]]]
theorem mfind_menc {LL:List (List Ch)} {i:Nat} {left:Int}:∀ {m:Memo} {k:Nat},mok LL m →
  mfind true [0,0] (.agg [i64 i,i64 left]) (menc m) k = some none ∨ ∃ j,mfind true [0,0] (.agg [i64 i,i64 left]) (menc m) k = some (some (k + j,partV (bst (LL.drop i) left))) ∧ j < m.length
 | [],k,_ => .inl rfl
 | e :: m,k,h => by
   obtain ⟨⟨a,b⟩,p⟩:=e
   obtain ⟨i',h1,h2⟩:=h ((a,b),p) (by simp)
   simp only at h1 h2
   have h3:∀ x ∈ m,∃ i:Nat,x.1.1 = i ∧ x.2 = bst (LL.drop i) x.1.2:=fun x hx => h x (by simp [hx])
   have step:mfind true [0,0] (.agg [i64 i,i64 left]) (menc (((a,b),p) :: m)) k = if (i:Int) = a ∧ left = b then some (some (k,partV p)) else mfind true [0,0] (.agg [i64 i,i64 left]) (menc m) (k + 1):=by
    show (match V.keq true [0,0] (.agg [i64 i,i64 left]) (.agg [i64 a,i64 b]) with | some true => some (some (k,partV p)) | some false => mfind true [0,0] (.agg [i64 i,i64 left]) (menc m) (k + 1) | none => none) = _
    have:V.keq true [0,0] (.agg [i64 i,i64 left]) (.agg [i64 a,i64 b]) = some (decide ((i:Int) = a ∧ left = b)):=by
     simp [V.keq,eqCells,eqCell] <;> (by_cases q1:(i:Int) = a <;> by_cases q2:left = b <;> simp [q1,q2])
    rw [this]
    by_cases q:(i:Int) = a ∧ left = b
    ·simp [q]
    ·rw [decide_eq_false q,if_neg q]
   rw [step]
   split
   ·rename_i q
    refine .inr ⟨0,?_,by simp⟩
    have:i = i':=by omega
    subst this
    rw [h2,← q.2];rfl
   ·rcases mfind_menc (k:=k + 1) h3 with h4 | ⟨j,h4,h5⟩
    ·exact .inl h4
    ·exact .inr ⟨j + 1,by rw [h4];simp;omega,by simp;omega⟩
structure Lb (LL:List (List Ch)):Prop where
 few:LL.length ≤ 6
 each:∀ i,i < LL.length → (nth LL i).length ≤ 1000
 flow:∀ i j,i < LL.length → j < (nth LL i).length → 0 ≤ (nth (nth LL i) j).flow ∧ (nth (nth LL i) j).flow ≤ 1073741824
 power:∀ i j,i < LL.length → j < (nth LL i).length → 0 ≤ (nth (nth LL i) j).power ∧ (nth (nth LL i) j).power ≤ 1073741824
 starts:∀ i j,i < LL.length → j < (nth LL i).length → 0 ≤ (nth (nth LL i) j).starts ∧ (nth (nth LL i) j).starts ≤ 1
def pb (k:Int):Part → Prop
 | none => True
 | some (p,s,f) => (0 ≤ p ∧ p ≤ 1073741824 * k) ∧ (0 ≤ s ∧ s ≤ k) ∧ 0 ≤ f
theorem bstL_pb {rest:Int → Part} {left k:Int} (hr:∀ x,pb k (rest x)):∀ {l:List Ch} {out:Part},pb (k + 1) out →
  (∀ c ∈ l,0 ≤ c.flow ∧ (0 ≤ c.power ∧ c.power ≤ 1073741824) ∧ 0 ≤ c.starts ∧ c.starts ≤ 1) → pb (k + 1) (bstL rest left l out)
 | [],out,h,_ => h
 | c :: cs,out,h,hc => by
   unfold bstL
   split
   ·exact h
   ·refine bstL_pb hr ?_ fun c hm => hc c (by simp [hm])
    have h1:=hr (left - c.flow)
    obtain ⟨c1,c2,c3⟩:=hc c (by simp)
    have ok:∀ p s f,pb k (some (p,s,f)) → pb (k + 1) (some (p + c.power,s + c.starts,c.flow)):=fun p s f q => by
     simp only [pb] at q ⊢
     omega
    unfold upd
    split
    ·exact h
    ·rename_i p s f e
     rw [e] at h1
     split
     ·exact ok _ _ _ h1
     ·split
      ·exact ok _ _ _ h1
      ·exact h
theorem mem_nth {α:Type} [Inhabited α] {l:List α} {a:α} (h:a ∈ l):∃ i,i < l.length ∧ nth l i = a:=by
 obtain ⟨i,hi,rfl⟩:=List.getElem_of_mem h
 exact ⟨i,hi,by simp [nth,hi]⟩
theorem bst_pb:∀ {LL:List (List Ch)} {left:Int},(∀ l ∈ LL,∀ c ∈ l,0 ≤ c.flow ∧ (0 ≤ c.power ∧ c.power ≤ 1073741824) ∧ 0 ≤ c.starts ∧ c.starts ≤ 1) → pb LL.length (bst LL left)
 | [],left,_ => by simp [bst,pb]
 | l :: ls,left,h => by
   have:=bstL_pb (left:=left) (k:=ls.length) (l:=l) (out:=none) (fun x => bst_pb (LL:=ls) (left:=x) fun l hl => h l (by simp [hl])) trivial (h l (by simp))
   simpa [bst] using this
theorem Lb.all {LL:List (List Ch)} (h:Lb LL):∀ l ∈ LL,∀ c ∈ l,0 ≤ c.flow ∧ (0 ≤ c.power ∧ c.power ≤ 1073741824) ∧ 0 ≤ c.starts ∧ c.starts ≤ 1:=by
 intro l hl c hc
 obtain ⟨i,hi,rfl⟩:=mem_nth hl
 obtain ⟨j,hj,rfl⟩:=mem_nth hc
 exact ⟨(h.flow i j hi hj).1,h.power i j hi hj,h.starts i j hi hj⟩
theorem Lb.pb {LL:List (List Ch)} (h:Lb LL) (i:Nat) (left:Int):pb (LL.length:Int) (bst (LL.drop i) left):=by
 have h1:=bst_pb (LL:=LL.drop i) (left:=left) (fun l hl => h.all l (List.mem_of_mem_drop hl))
 cases hb:bst (LL.drop i) left with
 | none => trivial
 | some q =>
   obtain ⟨p,s,f⟩:=q
   rw [hb] at h1
   simp only [Go.Proofs.YtfjdfnegookkcaaGreat.pb] at h1 ⊢
   have:(LL.drop i).length ≤ LL.length:=by simp
   omega
theorem bst_drop {LL:List (List Ch)} {i:Nat} (h:i < LL.length) (left:Int):bst (LL.drop i) left = bstL (bst (LL.drop (i + 1))) left (nth LL i) none:=by
 rw [drop_nth h];rfl
theorem keq2 (a b:Int):V.keq true [0,0] (.agg [i64 a,i64 b]) (.agg [i64 a,i64 b]) = some true:=by simp [V.keq,eqCells,eqCell]
theorem c_Best1 {LL:List (List Ch)} (hL:Lb LL):∀ (k i:Nat) (left:Int) (m:Memo),k = LL.length - i → i ≤ LL.length → 0 ≤ left → left ≤ 1073741824 → mok LL m →
  ∃ m',Lim F 118 [i64 i,i64 left,.gptr 0 0,.gptr 2 0,.gptr 3 0] (gl 118 LL m) = some (partV (bst (LL.drop i) left),gl 118 LL m') ∧ mok LL m':=by
 intro k
 induction k with
 | zero =>
   intro i left m hk hi h0 h1 hm
   obtain rfl:i = LL.length:=by omega
   refine ⟨m,eq_of rfl rfl ?_,hm⟩
   rw [List.drop_length,bst]
   simp +contextual (disch:=omega) [-getElem?_pos,-List.length_eq_zero_iff,-Int.natCast_eq_zero,wrap64,v_dispatch_Best_1,gl]
   rfl
 | succ k ih =>
   intro i left m hk hi h0 h1 hm
   suffices h:∀ Q:V → List GObj → Prop,(∀ m',mok LL m' → Q (partV (bst (LL.drop i) left)) (gl 118 LL m')) → Ret (Lim F) 118 [i64 i,i64 left,.gptr 0 0,.gptr 2 0,.gptr 3 0] (gl 118 LL m) Q by
    obtain ⟨_,_,h,m',h1,rfl,rfl⟩:=h (fun v G => ∃ m',mok LL m' ∧ v = partV (bst (LL.drop i) left) ∧ G = gl 118 LL m') fun m' a => ⟨m',a,rfl,rfl⟩
    exact ⟨m',h,h1⟩
   intro Q hQ
   refine ret_of rfl rfl ?_
   have hlt:i < LL.length:=by omega
   have hlt':¬(i:Int) = LL.length:=by omega
   have hk2:=keq2 i left
   have hfew:=hL.few
   rcases mfind_menc (LL:=LL) (i:=i) (left:=left) (m:=m) (k:=0) hm with hf | ⟨j,hf,hj⟩
   ·rw [bst_drop hlt left] at hQ
    generalize hW:bstL (bst (LL.drop (i + 1))) left (nth LL i) none = W at hQ
    have hn:=hL.each i hlt
    simp +contextual (disch:=omega) [-getElem?_pos,-List.length_eq_zero_iff,-Int.natCast_eq_zero,wrap64,v_dispatch_Best_1,gl,hlt',hk2,hf,get_nth (l:=LL)]
    have hset:∀ (out:Part) (m:Memo),out = W → mok LL m → (mfind true [0,0] (.agg [i64 i,i64 left]) (menc m) 0 = some none ∧ ∃ m',mok LL m' ∧ menc m ++ [(.agg [i64 i,i64 left],partV out)] = menc m') ∨
      ∃ j v,mfind true [0,0] (.agg [i64 i,i64 left]) (menc m) 0 = some (some (j,v)) ∧ ∃ m',mok LL m' ∧ (menc m).set j (.agg [i64 i,i64 left],partV out) = menc m':=by
     rintro out m rfl hm
     rw [← bst_drop hlt left] at hW
     rcases mfind_menc (LL:=LL) (i:=i) (left:=left) (m:=m) (k:=0) hm with h5 | ⟨j,h5,hj⟩
     ·refine .inl ⟨h5,m ++ [(((i:Int),left),out)],fun e he => ?_,by simp [menc]⟩
      rcases List.mem_append.1 he with h6 | h6
      ·exact hm e h6
      ·obtain rfl:=List.mem_singleton.1 h6
       exact ⟨i,rfl,hW.symm⟩
     ·refine .inr ⟨_,_,h5,m.set (0 + j) (((i:Int),left),out),fun e he => ?_,by simp [menc,List.map_set]⟩
      rcases List.mem_or_eq_of_mem_set he with h6 | rfl
      ·exact hm e h6
      ·exact ⟨i,rfl,hW.symm⟩
    refine go_loop (fun x:Nat × Part × Memo => v_dispatch_Best_1_s0 i left (.gptr 2 0) (.gptr 3 0) (.slice none 3 ((nth LL i).map Ch.row)) (nth LL i).length x.1 [.bool false,i64 0,i64 0,i64 0] (partL x.2.1) (gl 118 LL x.2.2))
     (fun x => x.1 ≤ (nth LL i).length ∧ bstL (bst (LL.drop (i + 1))) left ((nth LL i).drop x.1) x.2.1 = W ∧ mok LL x.2.2) (fun x => (nth LL i).length - x.1) (0,none,m) rfl (by simp [gl,partL]) ⟨by omega,by simpa using hW,hm⟩ ?_
    rintro ⟨j,out,m⟩ ⟨hj,hq,hm⟩
    simp only at hj hq hm
    simp +contextual (disch:=omega) [-getElem?_pos,-List.length_eq_zero_iff,-Int.natCast_eq_zero,wrap64,v_dispatch_Best_1_b0,gl]
    refine cnd_dec (fun h2 => ?_) (fun h2 => ?_)
    ·have h2:j < (nth LL i).length:=by omega
     have a1:=hL.flow i j hlt h2
     have a2:=hL.power i j hlt h2
     have a3:=hL.starts i j hlt h2
     rw [drop_nth h2,bstL] at hq
     have gt:=get_nth h2
     simp +contextual (disch:=omega) [-getElem?_pos,-List.length_eq_zero_iff,-Int.natCast_eq_zero,wrap64,gt]
     refine cnd_dec (fun h3 => ?_) (fun h3 => ?_)
     ·rw [if_pos h3] at hq
      rcases hset out m hq hm with ⟨g1,m2,g2,g3⟩ | ⟨j2,v2,g1,m2,g2,g3⟩
      ·have:=hQ m2 g2
       cases hW':W with
       | none =>
         rw [hq] at g3
         rw [hW'] at this g3
         simp only [gl,← g3,partV,partL] at this
         simp +contextual (disch:=omega) [-getElem?_pos,-List.length_eq_zero_iff,-Int.natCast_eq_zero,wrap64,hq,hW',partL,hk2,g1]
         exact this
       | some q =>
         obtain ⟨p,s,f⟩:=q
         rw [hq] at g3
         rw [hW'] at this g3
         simp only [gl,← g3,partV,partL] at this
         simp +contextual (disch:=omega) [-getElem?_pos,-List.length_eq_zero_iff,-Int.natCast_eq_zero,wrap64,hq,hW',partL,hk2,g1]
         exact this
      ·have:=hQ m2 g2
       cases hW':W with
       | none =>
         rw [hq] at g3
         rw [hW'] at this g3
         simp only [gl,← g3,partV,partL] at this
         simp +contextual (disch:=omega) [-getElem?_pos,-List.length_eq_zero_iff,-Int.natCast_eq_zero,wrap64,hq,hW',partL,hk2,g1]
         exact this
       | some q =>
         obtain ⟨p,s,f⟩:=q
         rw [hq] at g3
         rw [hW'] at this g3
         simp only [gl,← g3,partV,partL] at this
         simp +contextual (disch:=omega) [-getElem?_pos,-List.length_eq_zero_iff,-Int.natCast_eq_zero,wrap64,hq,hW',partL,hk2,g1]
         exact this
     ·obtain ⟨m',hI,hm'⟩:=ih (i + 1) (left - (nth (nth LL i) j).flow) m (by omega) (by omega) (by omega) (by omega) hm
      have hp:=hL.pb (i + 1) (left - (nth (nth LL i) j).flow)
      rw [if_neg h3] at hq
      unfold upd at hq
      simp only [gl] at hI
      push_cast at hI
      cases hb:bst (LL.drop (i + 1)) (left - (nth (nth LL i) j).flow) with
      | none =>
        rw [hb] at hI hp hq
        simp only [partV,partL] at hI
        simp only at hq
        simp +contextual (disch:=omega) [-getElem?_pos,-List.length_eq_zero_iff,-Int.natCast_eq_zero,wrap64,hI]
        exact rnd_next (j + 1,out,m') (by simp [gl]) ⟨by omega,hq,hm'⟩ (by simp;omega)
      | some q =>
        obtain ⟨p,s,f⟩:=q
        rw [hb] at hI hp hq
        simp only [partV,partL] at hI
        simp only at hq
        simp only [pb] at hp
        have hB:=fun a b => c_dispatch_Better a b [] [] (by simp) []
        simp only [ints,List.map_nil] at hB
        cases out with
        | none =>
          simp only at hq
          simp +contextual (disch:=omega) [-getElem?_pos,-List.length_eq_zero_iff,-Int.natCast_eq_zero,wrap64,hI,partL]
          exact rnd_next (j + 1,some (p + (nth (nth LL i) j).power,s + (nth (nth LL i) j).starts,(nth (nth LL i) j).flow),m') (by simp [gl,partL]) ⟨by omega,hq,hm'⟩ (by simp;omega)
        | some o =>
          obtain ⟨p',s',f'⟩:=o
          simp only at hq
          by_cases hbt:betP (p + (nth (nth LL i) j).power,s + (nth (nth LL i) j).starts) (p',s') [] []
          ·rw [if_pos hbt] at hq
           have hB:=hB (p + (nth (nth LL i) j).power,s + (nth (nth LL i) j).starts) (p',s')
           simp +contextual (disch:=omega) [-getElem?_pos,-List.length_eq_zero_iff,-Int.natCast_eq_zero,wrap64,hI,partL,hB,hbt]
           exact rnd_next (j + 1,some (p + (nth (nth LL i) j).power,s + (nth (nth LL i) j).starts,(nth (nth LL i) j).flow),m') (by simp [gl,partL]) ⟨by omega,hq,hm'⟩ (by simp;omega)
          ·rw [if_neg hbt] at hq
           have hB:=hB (p + (nth (nth LL i) j).power,s + (nth (nth LL i) j).starts) (p',s')
           simp +contextual (disch:=omega) [-getElem?_pos,-List.length_eq_zero_iff,-Int.natCast_eq_zero,wrap64,hI,partL,hB,hbt]
           exact rnd_next (j + 1,some (p',s',f'),m') (by simp [gl,partL]) ⟨by omega,hq,hm'⟩ (by simp;omega)
    ·obtain rfl:j = (nth LL i).length:=by omega
     rw [List.drop_length,bstL] at hq
     rcases hset out m hq hm with ⟨g1,m2,g2,g3⟩ | ⟨j2,v2,g1,m2,g2,g3⟩
     ·have:=hQ m2 g2
      cases hW':W with
      | none =>
        rw [hq] at g3
        rw [hW'] at this g3
        simp only [gl,← g3,partV,partL] at this
        simp +contextual (disch:=omega) [-getElem?_pos,-List.length_eq_zero_iff,-Int.natCast_eq_zero,wrap64,hq,hW',partL,hk2,g1]
        exact this
      | some q =>
        obtain ⟨p,s,f⟩:=q
        rw [hq] at g3
        rw [hW'] at this g3
        simp only [gl,← g3,partV,partL] at this
        simp +contextual (disch:=omega) [-getElem?_pos,-List.length_eq_zero_iff,-Int.natCast_eq_zero,wrap64,hq,hW',partL,hk2,g1]
        exact this
     ·have:=hQ m2 g2
      cases hW':W with
      | none =>
        rw [hq] at g3
        rw [hW'] at this g3
        simp only [gl,← g3,partV,partL] at this
        simp +contextual (disch:=omega) [-getElem?_pos,-List.length_eq_zero_iff,-Int.natCast_eq_zero,wrap64,hq,hW',partL,hk2,g1]
        exact this
      | some q =>
        obtain ⟨p,s,f⟩:=q
        rw [hq] at g3
        rw [hW'] at this g3
        simp only [gl,← g3,partV,partL] at this
        simp +contextual (disch:=omega) [-getElem?_pos,-List.length_eq_zero_iff,-Int.natCast_eq_zero,wrap64,hq,hW',partL,hk2,g1]
        exact this
   ·cases hb:bst (LL.drop i) left with
    | none =>
      rw [hb] at hf hQ
      simp only [partV,partL] at hf
      simp +contextual (disch:=omega) [-getElem?_pos,-List.length_eq_zero_iff,-Int.natCast_eq_zero,wrap64,v_dispatch_Best_1,gl,hlt',hk2,hf]
      exact hQ m hm
    | some q =>
      obtain ⟨p,s,f⟩:=q
      rw [hb] at hf hQ
      simp only [partV,partL] at hf
      simp +contextual (disch:=omega) [-getElem?_pos,-List.length_eq_zero_iff,-Int.natCast_eq_zero,wrap64,v_dispatch_Best_1,gl,hlt',hk2,hf]
      exact hQ m hm
end Go.Proofs.YtfjdfnegookkcaaGreat
namespace Go.Proofs.YtfjdfnegookkcaaGreat
set_option linter.all false
open Go.Vm
attribute [local simp] cond_yes cond_yes2 int_beq int_bne
noncomputable def chF (g:Int) (u:Un) (s:Us):List Ch:=(chs u s g).map fun q => ⟨q,pow u q,stt s q⟩
noncomputable def lls (us:List Un) (ss:List Us) (g:Int):List (List Ch):=List.zipWith (chF g) us ss
theorem lls_cells (us:List Un) (ss:List Us) (g:Int):List.zipWith (ccell g) us ss = (lls us ss g).map chl:=by
 rw [lls,List.map_zipWith]
 congr 1
 funext u s
 simp [chF,ccell,chl]
theorem goods_len {u:Un} {g:Int} (h:flE u g = 0):(goods u g).length ≤ 200:=by
 unfold flE at h
 split at h
 ·contradiction
 ·split at h
  ·cases h
  ·split at h
   ·cases h
   ·omega
theorem chs_len {u:Un} {s:Us} {g:Int} (h:flE u g = 0):(chs u s g).length ≤ 202:=by
 have h1:=goods_len h
 have h2:=dedup_len (sortI (goods u g ++ [0,s.flow]))
 have h3:=(sortI_perm (goods u g ++ [0,s.flow])).length_eq
 have h4:(chs u s g).length ≤ (dedup (sortI (goods u g ++ [0,s.flow]))).length:=List.length_filter_le _ _
 simp at h3
 omega
structure St0 (us:List Un) (ss:List Us) (g:Int):Prop where
 few:us.length ≤ 6
 len:us.length = ss.length
 valid:allV us ss
 grain:1 ≤ g ∧ g ≤ 1073741824
 flows:allF us g
theorem st0_of {us:List Un} {ss:List Us} {g release:Int} (h:stE us ss g release = 0):St0 us ss g ∧ (0 ≤ release ∧ release ≤ 1073741824) ∧ release ≤ 200 * g:=by
 unfold stE at h
 split at h
 ·cases h
 ·split at h
  ·cases h
  ·split at h
   ·cases h
   ·split at h
    ·cases h
    ·split at h
     ·cases h
     ·split at h
      ·cases h
      ·rename_i h1 h2 h3 h4 h5 h6
       exact ⟨⟨by omega,Decidable.of_not_not h2,Decidable.of_not_not h3,by omega,Decidable.of_not_not h6⟩,by omega,by omega⟩
theorem lls_len {us:List Un} {ss:List Us} {g:Int} (h:us.length = ss.length):(lls us ss g).length = us.length:=by simp [lls,h]
theorem nth_map {α β:Type} [Inhabited α] [Inhabited β] {f:α → β} {l:List α} {i:Nat} (h:i < l.length):nth (l.map f) i = f (nth l i):=by
 simp [nth,h]
theorem nth_zip {α β γ:Type} [Inhabited α] [Inhabited β] [Inhabited γ] {f:α → β → γ} {a:List α} {b:List β} {i:Nat} (h1:i < a.length) (h2:i < b.length):nth (List.zipWith f a b) i = f (nth a i) (nth b i):=by
 simp [nth,List.getElem?_zipWith,h1,h2]
theorem nth_mem {α:Type} [Inhabited α] {l:List α} {i:Nat} (h:i < l.length):nth l i ∈ l:=List.mem_of_getElem? (get_nth h)
theorem lb_of {us:List Un} {ss:List Us} {g:Int} (h:St0 us ss g):Lb (lls us ss g):=by
 have hl:=h.len
 have e:∀ i,i < (lls us ss g).length → nth (lls us ss g) i = chF g (nth us i) (nth ss i):=fun i hi => by
  rw [lls_len hl] at hi
  exact nth_zip hi (by omega)
 have c:∀ i j,i < (lls us ss g).length → j < (nth (lls us ss g) i).length → ∃ q,canP (nth us i) (nth ss i) q ∧ nth (nth (lls us ss g) i) j = ⟨q,pow (nth us i) q,stt (nth ss i) q⟩:=fun i j hi hj => by
  rw [e i hi] at hj ⊢
  have hj':j < (chs (nth us i) (nth ss i) g).length:=by simpa [chF] using hj
  refine ⟨nth (chs (nth us i) (nth ss i) g) j,?_,nth_map hj'⟩
  have:=nth_mem hj'
  simp only [chs,List.mem_filter,decide_eq_true_eq] at this
  exact this.2
 refine ⟨by rw [lls_len hl];exact h.few,fun i hi => ?_,fun i j hi hj => ?_,fun i j hi hj => ?_,fun i j hi hj => ?_⟩
 ·rw [e i hi]
  rw [lls_len hl] at hi
  have:=chs_len (s:=nth ss i) (h.flows i hi)
  simp [chF];omega
 ·obtain ⟨q,h1,h2⟩:=c i j hi hj
  rw [h2];exact can_range h1
 ·obtain ⟨q,h1,h2⟩:=c i j hi hj
  rw [h2];exact pow_range
 ·obtain ⟨q,h1,h2⟩:=c i j hi hj
  rw [h2];exact stt_range
noncomputable def bestE (us:List Un) (ss:List Us) (g release:Int):Int:=if stE us ss g release ≠ 0 then stE us ss g release else if recF (lls us ss g) release = none then 9 else 0
noncomputable def bestL (us:List Un) (ss:List Us) (g release:Int):List Int:=if stE us ss g release ≠ 0 then [] else (recF (lls us ss g) release).getD []
theorem bst_flow {LL:List (List Ch)}:∀ {l:List Ch} {rest:Int → Part} {left:Int} {out:Part} {p s f:Int},(∀ q t e,out = some (q,t,e) → e ≤ left) → bstL rest left l out = some (p,s,f) → f ≤ left
 | [],rest,left,out,p,s,f,h,he => h _ _ _ (by simpa [bstL] using he)
 | c :: cs,rest,left,out,p,s,f,h,he => by
   unfold bstL at he
   split at he
   ·exact h _ _ _ he
   ·refine bst_flow (LL:=LL) (fun q t e hq => ?_) he
    unfold upd at hq
    split at hq
    ·exact h _ _ _ hq
    ·split at hq
     ·cases hq;omega
     ·split at hq
      ·cases hq;omega
      ·cases hq;exact h _ _ _ rfl
theorem c_dispatch_Best (us:List Un) (ss:List Us) (g release:Int):∃ G',Lim F 100 [uns us,sts ss,i64 g,i64 release] [] = some (.tuple [own (bestL us ss g release),i64 (bestE us ss g release)],G'):=by
 suffices h:∀ Q:V → List GObj → Prop,(∀ G,Q (.tuple [own (bestL us ss g release),i64 (bestE us ss g release)]) G) → Ret (Lim F) 100 [uns us,sts ss,i64 g,i64 release] [] Q by
  obtain ⟨_,_,h,rfl⟩:=h (fun v _ => v = .tuple [own (bestL us ss g release),i64 (bestE us ss g release)]) fun _ => rfl
  exact ⟨_,h⟩
 intro Q hQ
 refine ret_of rfl rfl ?_
 have hS:=c_station us ss g release []
 by_cases h0:stE us ss g release = 0
 ·rw [h0,if_pos rfl,lls_cells] at hS
  obtain ⟨h1,h2,h3⟩:=st0_of h0
  have hL:=lb_of h1
  have eL:bestL us ss g release = (recF (lls us ss g) release).getD []:=by simp [bestL,h0]
  have eE:bestE us ss g release = if recF (lls us ss g) release = none then 9 else 0:=by simp [bestE,h0]
  rw [eL,eE] at hQ
  have hfew:=hL.few
  generalize hLL:lls us ss g = LL at *
  simp +contextual (disch:=omega) [-getElem?_pos,-List.length_eq_zero_iff,-Int.natCast_eq_zero,wrap64,v_dispatch_Best,hS]
  refine go_loop (fun x:List Int × Int × Memo => v_dispatch_Best_s0 (.gptr 0 0) (.gptr 3 0) (.slice (some 1048) 1 (x.1.map fun n => [i64 n])) x.2.1 x.1.length (gl 118 LL x.2.2))
   (fun x => x.1.length ≤ LL.length ∧ (0 ≤ x.2.1 ∧ x.2.1 ≤ 1073741824) ∧ (recF (LL.drop x.1.length) x.2.1).map (x.1 ++ ·) = recF LL release ∧ mok LL x.2.2) (fun x => LL.length - x.1.length) ([],release,[]) rfl (by simp [gl,menc]) ⟨by simp,by simpa using h2,by simp,fun e he => by simp at he⟩ ?_
  rintro ⟨fs,left,m⟩ ⟨i1,i2,i3,i4⟩
  simp only at i1 i2 i3 i4
  simp +contextual (disch:=omega) [-getElem?_pos,-List.length_eq_zero_iff,-Int.natCast_eq_zero,wrap64,v_dispatch_Best_b0,gl]
  refine cnd_dec (fun h4 => ?_) (fun h4 => ?_)
  ·have h4:fs.length < LL.length:=by omega
   obtain ⟨m',hI,hm'⟩:=c_Best1 hL (LL.length - fs.length) fs.length left m rfl i1 i2.1 i2.2 i4
   have hp:=hL.pb fs.length left
   have hd:LL.drop fs.length = nth LL fs.length :: LL.drop (fs.length + 1):=drop_nth h4
   rw [hd,recF,← hd] at i3
   cases hb:bst (LL.drop fs.length) left with
   | none =>
     rw [hb] at hI i3
     simp only [partV,partL,gl] at hI
     simp only [Option.map_none] at i3
     rw [← i3] at hQ
     simp only [if_true,Option.getD_none] at hQ
     simp +contextual (disch:=omega) [-getElem?_pos,-List.length_eq_zero_iff,-Int.natCast_eq_zero,wrap64,hI]
     exact hQ _
   | some q =>
     obtain ⟨p,s,f⟩:=q
     rw [hb] at hI i3 hp
     have hf:f ≤ left:=by
      rw [bst_drop h4] at hb
      exact bst_flow (LL:=LL) (fun q t e hq => by cases hq) hb
     simp only [partV,partL,gl] at hI
     simp only [pb] at hp
     simp only at i3
     simp +contextual (disch:=omega) [-getElem?_pos,-List.length_eq_zero_iff,-Int.natCast_eq_zero,wrap64,hI]
     refine rnd_next (fs ++ [f],left - f,m') (by simp [gl]) ⟨by simp;omega,by simp;omega,?_,hm'⟩ (by simp;omega)
     rw [← i3]
     simp [Function.comp_def]
  ·have e:fs.length = LL.length:=by omega
   rw [e,List.drop_length,recF] at i3
   simp only [Option.map_some,List.append_nil] at i3
   rw [← i3] at hQ
   simpa using hQ _
 ·rw [if_neg h0] at hS
  have eL:bestL us ss g release = []:=by simp [bestL,h0]
  have eE:bestE us ss g release = stE us ss g release:=by simp [bestE,h0]
  rw [eL,eE] at hQ
  simp +contextual (disch:=omega) [-getElem?_pos,-List.length_eq_zero_iff,-Int.natCast_eq_zero,wrap64,v_dispatch_Best,hS,h0]
  exact hQ _
end Go.Proofs.YtfjdfnegookkcaaGreat
namespace Go.Proofs.YtfjdfnegookkcaaGreat
set_option linter.all false
open Go.Vm
def vgt (a b:Int × Int):Prop:=b.1 < a.1 ∨ (a.1 = b.1 ∧ a.2 < b.2)
theorem bet_iff {a b:Int × Int} {p q:List Int}:betP a b p q ↔ vgt a b ∨ (a.1 = b.1 ∧ a.2 = b.2 ∧ lexC p q < 0):=by
 unfold betP vgt
 split
 ·omega
 ·split <;> omega
theorem lexC_self:∀ p:List Int,lexC p p = 0
 | [] => rfl
 | a :: p => by simp [lexC,lexC_self p]
theorem lexC_cons {a:Int} {p q:List Int}:lexC (a :: p) (a :: q) = lexC p q:=by simp [lexC]
theorem lexC_gt {a b:Int} {p q:List Int} (h:b < a):¬lexC (a :: p) (b :: q) < 0:=by
 simp only [lexC]
 rw [if_neg (by omega),if_pos h]
 omega
def Plan:List (List Ch) → List Ch → Prop
 | [],[] => True
 | l :: ls,c :: P => c ∈ l ∧ Plan ls P
 | _,_ => False
def sF (P:List Ch):Int:=(P.map Ch.flow).sum
def sP (P:List Ch):Int:=(P.map Ch.power).sum
def sS (P:List Ch):Int:=(P.map Ch.starts).sum
theorem plan_nonneg {LL:List (List Ch)}:∀ {P:List Ch},(∀ l ∈ LL,∀ c ∈ l,0 ≤ c.flow) → Plan LL P → 0 ≤ sF P:=by
 induction LL with
 | nil => intro P _ hp;cases P with
   | nil => simp [sF]
   | cons c P => exact hp.elim
 | cons l ls ih =>
   intro P h hp
   cases P with
   | nil => exact hp.elim
   | cons c P =>
     have h1:=ih (fun l hl => h l (by simp [hl])) hp.2
     have h2:=h l (by simp) c hp.1
     simp only [sF,List.map_cons,List.sum_cons] at h1 ⊢
     omega
structure Top (LL:List (List Ch)) (left:Int) (P:List Ch):Prop where
 plan:Plan LL P
 sum:sF P ≤ left
 best:∀ Q,Plan LL Q → sF Q ≤ left → ¬betP (sP Q,sS Q) (sP P,sS P) (Q.map Ch.flow) (P.map Ch.flow)
structure Jn (ls:List (List Ch)) (left:Int) (pre:List Ch) (p s f:Int) (c:Ch) (P:List Ch):Prop where
 mem:c ∈ pre
 flow:c.flow = f
 plan:Plan ls P
 sum:c.flow + sF P ≤ left
 power:c.power + sP P = p
 starts:c.starts + sS P = s
 rest:recF ls (left - f) = some (P.map Ch.flow)
 best:∀ d ∈ pre,∀ Q,Plan ls Q → d.flow + sF Q ≤ left → ¬betP (d.power + sP Q,d.starts + sS Q) (p,s) (d.flow :: Q.map Ch.flow) (c.flow :: P.map Ch.flow)
def J (ls:List (List Ch)) (left:Int) (pre:List Ch):Part → Prop
 | none => ∀ c ∈ pre,∀ Q,Plan ls Q → left < c.flow + sF Q
 | some (p,s,f) => ∃ c P,Jn ls left pre p s f c P
theorem J_more {ls:List (List Ch)} {left:Int} {pre:List Ch} {out:Part} {l:List Ch} (h:J ls left pre out) (hn:∀ c ∈ l,∀ Q,Plan ls Q → left < c.flow + sF Q):J ls left (pre ++ l) out:=by
 cases out with
 | none =>
   intro c hc Q hQ
   rcases List.mem_append.1 hc with h1 | h1
   ·exact h c h1 Q hQ
   ·exact hn c h1 Q hQ
 | some q =>
   obtain ⟨p,s,f⟩:=q
   obtain ⟨c,P,j⟩:=h
   refine ⟨c,P,⟨by simp [j.mem],j.flow,j.plan,j.sum,j.power,j.starts,j.rest,fun d hd Q hQ hs => ?_⟩⟩
   rcases List.mem_append.1 hd with h1 | h1
   ·exact j.best d h1 Q hQ hs
   ·have:=hn d h1 Q hQ
    omega
def Good (ls:List (List Ch)):Prop:=∀ left,0 ≤ left → match bst ls left with
 | none => ∀ Q,Plan ls Q → left < sF Q
 | some (p,s,_) => ∃ P,Top ls left P ∧ sP P = p ∧ sS P = s ∧ recF ls left = some (P.map Ch.flow)
theorem J_step {ls:List (List Ch)} (hg:Good ls) {left:Int} {pre:List Ch} {out:Part} {c:Ch} (h:J ls left pre out) (hup:∀ d ∈ pre,d.flow < c.flow) (hle:c.flow ≤ left):J ls left (pre ++ [c]) (upd (bst ls) left c out):=by
 have hg:=hg (left - c.flow) (by omega)
 unfold upd
 cases hb:bst ls (left - c.flow) with
 | none =>
   rw [hb] at hg
   exact J_more h fun d hd Q hQ => by
    obtain rfl:=List.mem_singleton.1 hd
    have:=hg Q hQ
    omega
 | some q =>
   obtain ⟨p0,s0,f0⟩:=q
   rw [hb] at hg
   obtain ⟨P0,t,rfl,rfl,e0⟩:=hg
   have new:∀ d ∈ [c],∀ Q,Plan ls Q → d.flow + sF Q ≤ left → ¬betP (d.power + sP Q,d.starts + sS Q) (sP P0 + c.power,sS P0 + c.starts) (d.flow :: Q.map Ch.flow) (c.flow :: P0.map Ch.flow):=by
    intro d hd Q hQ hs hbet
    obtain rfl:=List.mem_singleton.1 hd
    refine t.best Q hQ (by omega) ?_
    rw [bet_iff] at hbet ⊢
    rw [lexC_cons] at hbet
    unfold vgt at hbet ⊢
    simp only at hbet ⊢
    omega
   have ts:=t.sum
   cases out with
   | none =>
     simp only
     refine ⟨c,P0,⟨by simp,rfl,t.plan,by omega,by omega,by omega,e0,fun d hd Q hQ hs => ?_⟩⟩
     rcases List.mem_append.1 hd with h1 | h1
     ·have:=h d h1 Q hQ;omega
     ·exact new d h1 Q hQ hs
   | some o =>
     obtain ⟨p,s,f⟩:=o
     obtain ⟨c1,P1,j⟩:=h
     simp only
     split
     ·rename_i hbet
      rw [bet_iff] at hbet
      have hv:vgt (sP P0 + c.power,sS P0 + c.starts) (p,s):=by
       rcases hbet with h | h
       ·exact h
       ·simp [lexC] at h
      unfold vgt at hv
      simp only at hv
      refine ⟨c,P0,⟨by simp,rfl,t.plan,by omega,by omega,by omega,e0,fun d hd Q hQ hs => ?_⟩⟩
      rcases List.mem_append.1 hd with h1 | h1
      ·have:=j.best d h1 Q hQ hs
       rw [bet_iff] at this ⊢
       unfold vgt at this ⊢
       simp only at this ⊢
       omega
      ·exact new d h1 Q hQ hs
     ·rename_i hbet
      rw [bet_iff] at hbet
      unfold vgt at hbet
      simp only at hbet
      refine ⟨c1,P1,⟨by simp [j.mem],j.flow,j.plan,j.sum,j.power,j.starts,j.rest,fun d hd Q hQ hs => ?_⟩⟩
      rcases List.mem_append.1 hd with h1 | h1
      ·exact j.best d h1 Q hQ hs
      ·have h2:=new d h1 Q hQ hs
       obtain rfl:=List.mem_singleton.1 h1
       have h3:=lexC_gt (p:=Q.map Ch.flow) (q:=P1.map Ch.flow) (hup c1 j.mem)
       rw [bet_iff] at h2 ⊢
       unfold vgt at h2 ⊢
       simp only at h2 ⊢
       omega
theorem J_all {ls:List (List Ch)} (hg:Good ls) (h0:∀ l ∈ ls,∀ c ∈ l,0 ≤ c.flow) {left:Int}:∀ {cs pre:List Ch} {out:Part},(pre ++ cs).Pairwise (fun a b => a.flow < b.flow) → J ls left pre out → J ls left (pre ++ cs) (bstL (bst ls) left cs out)
 | [],pre,out,_,h => by simpa [bstL] using h
 | c :: cs,pre,out,hp,h => by
   have hp':=List.pairwise_append.1 hp
   unfold bstL
   split
   ·rename_i hlt
    refine J_more h fun d hd Q hQ => ?_
    have:=plan_nonneg h0 hQ
    rcases List.mem_cons.1 hd with rfl | h1
    ·omega
    ·have:=(List.pairwise_cons.1 hp'.2.1).1 d h1
     omega
   ·have h1:=J_step hg h (c:=c) (fun d hd => hp'.2.2 d hd c (by simp)) (by omega)
    have h2:=J_all hg h0 (cs:=cs) (pre:=pre ++ [c]) (by simpa using hp) h1
    simpa using h2
def Asc (LL:List (List Ch)):Prop:=∀ l ∈ LL,l.Pairwise fun a b => a.flow < b.flow
theorem good_all:∀ {LL:List (List Ch)},(∀ l ∈ LL,∀ c ∈ l,0 ≤ c.flow) → Asc LL → Good LL
 | [],_,_ => fun left h0 => by
   simp only [bst]
   refine ⟨[],⟨trivial,by simpa [sF] using h0,fun Q hQ _ => ?_⟩,rfl,rfl,rfl⟩
   cases Q with
   | nil => simp [betP,lexC]
   | cons c Q => exact hQ.elim
 | l :: ls,h0,ha => fun left hl0 => by
   have hg:Good ls:=good_all (fun l hl => h0 l (by simp [hl])) (fun l hl => ha l (by simp [hl]))
   have hj:=J_all hg (fun l hl => h0 l (by simp [hl])) (left:=left) (cs:=l) (pre:=[]) (out:=none) (by simpa using ha l (by simp)) (fun c hc => by simp at hc)
   simp only [List.nil_append] at hj
   have e:bst (l :: ls) left = bstL (bst ls) left l none:=rfl
   rw [e]
   cases hb:bstL (bst ls) left l none with
   | none =>
     rw [hb] at hj
     intro Q hQ
     cases Q with
     | nil => exact hQ.elim
     | cons c Q =>
       have:=hj c hQ.1 Q hQ.2
       simpa [sF] using this
   | some q =>
     obtain ⟨p,s,f⟩:=q
     rw [hb] at hj
     obtain ⟨c,P,j⟩:=hj
     have j4:=j.sum
     have j5:=j.power
     have j6:=j.starts
     refine ⟨c :: P,⟨⟨j.mem,j.plan⟩,by simpa [sF] using j4,fun Q hQ hs => ?_⟩,by simpa [sP] using j5,by simpa [sS] using j6,?_⟩
     ·cases Q with
      | nil => exact hQ.elim
      | cons d Q =>
        have:=j.best d hQ.1 Q hQ.2 (by simpa [sF] using hs)
        have e1:sP (c :: P) = p:=by simpa [sP] using j5
        have e2:sS (c :: P) = s:=by simpa [sS] using j6
        rw [e1,e2]
        simpa [sP,sS] using this
     ·rw [recF,e,hb]
      simp only
      rw [j.rest]
      simp [j.flow]
end Go.Proofs.YtfjdfnegookkcaaGreat
namespace Go.Proofs.YtfjdfnegookkcaaGreat
set_option linter.all false
open Go.Vm
theorem mem_dedup {x:Int}:∀ {l:List Int},x ∈ dedup l ↔ x ∈ l
 | [] => Iff.rfl
 | [a] => Iff.rfl
 | a :: b :: r => by
   have ih:=mem_dedup (x:=x) (l:=b :: r)
   unfold dedup
   by_cases h:a = b
   ·simp only [h,beq_self_eq_true,cond_true,ih]
    simp
   ·have h':(a == b) = false:=by simpa using h
    simp only [h',cond_false,List.mem_cons,ih]
theorem dedup_up:∀ {l:List Int},l.Pairwise (· ≤ ·) → (dedup l).Pairwise (· < ·)
 | [],_ => .nil
 | [a],_ => by simp [dedup]
 | a :: b :: r,h => by
   obtain ⟨h1,h2⟩:=List.pairwise_cons.1 h
   have ih:=dedup_up h2
   unfold dedup
   by_cases hab:a = b
   ·simp only [hab,beq_self_eq_true,cond_true]
    exact ih
   ·have h':(a == b) = false:=by simpa using hab
    simp only [h',cond_false,List.pairwise_cons]
    refine ⟨fun x hx => ?_,ih⟩
    rw [mem_dedup] at hx
    have h3:=h1 b (by simp)
    rcases List.mem_cons.1 hx with rfl | h4
    ·omega
    ·have:=(List.pairwise_cons.1 h2).1 x h4
     omega
theorem mem_chs {u:Un} {s:Us} {g q:Int}:q ∈ chs u s g ↔ (q ∈ goods u g ∨ q = 0 ∨ q = s.flow) ∧ canP u s q:=by
 simp only [chs,List.mem_filter,mem_dedup,(sortI_perm _).mem_iff,decide_eq_true_eq,List.mem_append,List.mem_cons,List.not_mem_nil,or_false]
theorem chs_up {u:Un} {s:Us} {g:Int}:(chs u s g).Pairwise (· < ·):=(dedup_up (sortI_sorted _)).filter _
def feas (g:Int):List Un → List Us → List Int → Prop
 | u :: us,s :: ss,q :: F => q ∈ chs u s g ∧ feas g us ss F
 | [],[],[] => True
 | _,_,_ => False
noncomputable def pwF:List Un → List Int → Int
 | u :: us,q :: F => pow u q + pwF us F
 | _,_ => 0
def stF:List Us → List Int → Int
 | s :: ss,q :: F => stt s q + stF ss F
 | _,_ => 0
noncomputable def mkP:List Un → List Us → List Int → List Ch
 | u :: us,s :: ss,q :: F => ⟨q,pow u q,stt s q⟩ :: mkP us ss F
 | _,_,_ => []
theorem feas_len {g:Int}:∀ {us:List Un} {ss:List Us} {F:List Int},feas g us ss F → F.length = us.length ∧ F.length = ss.length
 | [],[],[],_ => ⟨rfl,rfl⟩
 | _ :: _,_ :: _,_ :: _,h => by have:=feas_len h.2;simp;omega
 | [],_ :: _,_,h => h.elim
 | [],[],_ :: _,h => h.elim
 | _ :: _,[],_,h => h.elim
 | _ :: _,_ :: _,[],h => h.elim
theorem mkP_of {g:Int}:∀ {us:List Un} {ss:List Us} {F:List Int},feas g us ss F → Plan (lls us ss g) (mkP us ss F) ∧ (mkP us ss F).map Ch.flow = F ∧ sF (mkP us ss F) = F.sum ∧ sP (mkP us ss F) = pwF us F ∧ sS (mkP us ss F) = stF ss F
 | [],[],[],_ => ⟨trivial,rfl,rfl,rfl,rfl⟩
 | u :: us,s :: ss,q :: F,h => by
   obtain ⟨h1,h2,h3,h4,h5⟩:=mkP_of h.2
   refine ⟨⟨List.mem_map.2 ⟨q,h.1,rfl⟩,h1⟩,by simp [mkP,h2],?_,?_,?_⟩
   ·simp only [sF] at h3 ⊢;simp [mkP,h3]
   ·simp only [sP] at h4 ⊢;simp [mkP,pwF,h4]
   ·simp only [sS] at h5 ⊢;simp [mkP,stF,h5]
 | [],_ :: _,_,h => h.elim
 | [],[],_ :: _,h => h.elim
 | _ :: _,[],_,h => h.elim
 | _ :: _,_ :: _,[],h => h.elim
theorem plan_mk {g:Int}:∀ {us:List Un} {ss:List Us} {P:List Ch},us.length = ss.length → Plan (lls us ss g) P → feas g us ss (P.map Ch.flow) ∧ P = mkP us ss (P.map Ch.flow)
 | [],[],[],_,_ => ⟨trivial,rfl⟩
 | [],[],_ :: _,_,h => h.elim
 | [],_ :: _,_,h,_ => by simp at h
 | _ :: _,[],_,h,_ => by simp at h
 | _ :: _,_ :: _,[],_,h => h.elim
 | u :: us,s :: ss,c :: P,hl,h => by
   obtain ⟨h1,h2⟩:=plan_mk (by simpa using hl) h.2
   obtain ⟨q,hq,rfl⟩:=List.mem_map.1 h.1
   exact ⟨⟨hq,h1⟩,by simp [mkP];exact h2⟩
structure Best (g:Int) (us:List Un) (ss:List Us) (left:Int) (F:List Int):Prop where
 feas:feas g us ss F
 sum:F.sum ≤ left
 best:∀ E,Go.Proofs.YtfjdfnegookkcaaGreat.feas g us ss E → E.sum ≤ left → ¬betP (pwF us E,stF ss E) (pwF us F,stF ss F) E F
theorem lls_asc {g:Int}:∀ {us:List Un} {ss:List Us},Asc (lls us ss g)
 | [],_ => fun l hl => by simp [lls] at hl
 | _ :: _,[] => fun l hl => by simp [lls] at hl
 | u :: us,s :: ss => fun l hl => by
   rcases List.mem_cons.1 hl with rfl | h
   ·exact List.pairwise_map.2 chs_up
   ·exact lls_asc (us:=us) (ss:=ss) l h
theorem recF_none {LL:List (List Ch)} {left:Int} (hg:∀ n,Good (LL.drop n)) (h0:0 ≤ left) (hb:bst LL left ≠ none):recF LL left ≠ none:=by
 have:=hg 0 left h0
 simp only [List.drop_zero] at this
 cases h:bst LL left with
 | none => exact absurd h hb
 | some q =>
   obtain ⟨p,s,f⟩:=q
   rw [h] at this
   obtain ⟨P,_,_,_,e⟩:=this
   rw [e];simp
theorem best_of {us:List Un} {ss:List Us} {g left:Int} (hs:St0 us ss g) (h0:0 ≤ left) :
  match recF (lls us ss g) left with
  | none => ∀ F,feas g us ss F → left < F.sum
  | some F => Best g us ss left F:=by
 have hL:=lb_of hs
 have hn:∀ l ∈ lls us ss g,∀ c ∈ l,0 ≤ c.flow:=fun l hl c hc => (hL.all l hl c hc).1
 have hg:=good_all hn lls_asc
 have hgl:=hg left h0
 cases hb:bst (lls us ss g) left with
 | none =>
   rw [hb] at hgl
   have e:recF (lls us ss g) left = none:=by
    cases hl:lls us ss g with
    | nil => rw [hl] at hb;simp [bst] at hb
    | cons l ls => rw [recF,← hl,hb]
   rw [e]
   intro F hF
   obtain ⟨h1,_,h3,_⟩:=mkP_of hF
   have:=hgl _ h1
   omega
 | some q =>
   obtain ⟨p,s,f⟩:=q
   rw [hb] at hgl
   obtain ⟨P,t,_,_,e⟩:=hgl
   rw [e]
   obtain ⟨h1,h2⟩:=plan_mk hs.len t.plan
   obtain ⟨_,_,h3,h4,h5⟩:=mkP_of h1
   rw [← h2] at h3 h4 h5
   refine ⟨h1,by have:=t.sum;omega,fun E hE hs => ?_⟩
   obtain ⟨e1,e2,e3,e4,e5⟩:=mkP_of hE
   have:=t.best _ e1 (by omega)
   rwa [e2,e4,e5,h4,h5] at this
theorem lexC_anti:∀ {p q:List Int},p.length = q.length → (lexC p q < 0 ∨ lexC q p < 0 ∨ p = q)
 | [],[],_ => .inr (.inr rfl)
 | [],_ :: _,h => by simp at h
 | _ :: _,[],h => by simp at h
 | a :: p,b :: q,h => by
   have ih:=lexC_anti (p:=p) (q:=q) (by simpa using h)
   simp only [lexC]
   rcases Int.lt_trichotomy a b with h1 | h1 | h1
   ·left;simp [h1]
   ·subst h1
    simp only [Int.lt_irrefl,if_false]
    rcases ih with h2 | h2 | h2
    ·exact .inl h2
    ·exact .inr (.inl h2)
    ·exact .inr (.inr (by rw [h2]))
   ·right;left;simp [h1]
theorem bet_total {a b:Int × Int} {p q:List Int} (h:p.length = q.length):betP a b p q ∨ betP b a q p ∨ (a = b ∧ p = q):=by
 rw [bet_iff,bet_iff]
 unfold vgt
 obtain ⟨a1,a2⟩:=a
 obtain ⟨b1,b2⟩:=b
 rcases lexC_anti h with h1 | h1 | h1
 ·simp only [Prod.mk.injEq];omega
 ·simp only [Prod.mk.injEq];omega
 ·simp only [Prod.mk.injEq,h1,and_true];omega
theorem Best.unique {g:Int} {us:List Un} {ss:List Us} {left:Int} {F E:List Int} (h:Best g us ss left F) (h':Best g us ss left E):F = E:=by
 have l1:=feas_len h.feas
 have l2:=feas_len h'.feas
 rcases bet_total (a:=(pwF us F,stF ss F)) (b:=(pwF us E,stF ss E)) (p:=F) (q:=E) (by omega) with h1 | h1 | h1
 ·exact absurd h1 (h'.best F h.feas h.sum)
 ·exact absurd h1 (h.best E h'.feas h'.sum)
 ·exact h1.2
theorem valR_feas {g:Int}:∀ {us:List Un} {ss:List Us} {F:List Int} {a b c:Int},feas g us ss F → valR us ss F (a,b,c) = some (a + F.sum,b + pwF us F,c + stF ss F)
 | [],[],[],a,b,c,_ => by simp [valR,pwF,stF]
 | u :: us,s :: ss,q :: F,a,b,c,h => by
   rw [valR,if_pos (mem_chs.1 h.1).2,valR_feas h.2]
   simp only [List.sum_cons,pwF,stF,Option.some.injEq,Prod.mk.injEq]
   omega
 | [],_ :: _,_,_,_,_,h => h.elim
 | [],[],_ :: _,_,_,_,h => h.elim
 | _ :: _,[],_,_,_,_,h => h.elim
 | _ :: _,_ :: _,[],_,_,_,h => h.elim
theorem valO_feas {g:Int} {us:List Un} {ss:List Us} {F:List Int} (h:feas g us ss F):valO us ss F = some (F.sum,pwF us F,stF ss F):=by
 have l:=feas_len h
 rw [valO,if_pos (by omega),valR_feas h]
 simp
end Go.Proofs.YtfjdfnegookkcaaGreat
