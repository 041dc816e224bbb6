/- Parts of the proof, joined: Mk1, Cur1, Cur2, Un1, Un2, Un3, Un4, Mk2. -/
import Derived.Test.YtfjdfnegookkcaaGreatQV
namespace Go.Proofs.YtfjdfnegookkcaaGreat
set_option linter.all false
open Go.Vm
attribute [local simp] cond_yes cond_yes2 int_beq int_bne
def modV (n m:Int):Int:=(IntKind.i64.wrap (n.tmod m + m)).tmod m
theorem c_Mod {n m:Int} (hm:m ≠ 0) (G:List GObj):Lim F 25 [i64 n,i64 m] G = some (i64 (modV n m),G) :=
 eq_of rfl rfl (by simp [v_mk_Mod,hm,modV])
abbrev ints (l:List Int):V:=.slice none 1 (l.map fun n => [i64 n])
abbrev dk (l:List Int) (k:Nat):GObj:=.cells [ints l,i64 k]
theorem c_Next_end {n:Int} {l:List Int} {k:Nat} (h:n < 1 ∨ l.length ≤ k):Lim F 10 [.gptr 0 0,i64 n] [dk l k] = some (i64 0,[dk l k]) :=
 eq_of rfl rfl (by
  by_cases h1:n < 1
  ·simp [v_mk_Deck_Next,h1]
  ·have h2:l.length ≤ k:=h.resolve_left h1
   simp [v_mk_Deck_Next,h1,h2])
theorem c_Next_in {n:Int} {l:List Int} {k:Nat} {v:Int} (h1:1 ≤ n) (h2:l[k]? = some v) (hk:k < 9223372036854775807):Lim F 10 [.gptr 0 0,i64 n] [dk l k] = some (i64 (modV v n),[dk l (k + 1)]) :=
 eq_of rfl rfl (by
  have hn:¬ n < 1:=by omega
  have hl:¬ l.length ≤ k:=by have:=(List.getElem?_eq_some_iff.1 h2).1;omega
  simp +contextual (disch:=omega) [-getElem?_pos,-List.length_eq_zero_iff,-Int.natCast_eq_zero,wrap64,v_mk_Deck_Next,hn,hl,h2,c_Mod])
theorem modV_range {v n:Int} (h1:1 ≤ n) (h2:n ≤ 4611686018427387904):0 ≤ modV v n ∧ modV v n < n:=by
 have h3:-n < v.tmod n:=by
  rcases Int.le_total 0 v with h | h
  ·have:=Int.tmod_nonneg n h;omega
  ·have h4:=Int.tmod_lt_of_pos (-v) (show 0 < n by omega)
   rw [Int.neg_tmod] at h4
   omega
 have h4:v.tmod n < n:=Int.tmod_lt_of_pos _ (by omega)
 unfold modV
 rw [wrap64 (by omega) (by omega)]
 exact ⟨Int.tmod_nonneg _ (by omega),Int.tmod_lt_of_pos _ (by omega)⟩
def okd (l:List Int) (k:Nat):Prop:=k ≤ l.length ∧ l.length ≤ 9223372036854775807
theorem c_Next {l:List Int} {k:Nat} (hd:okd l k) (n:Int) (hn:n ≤ 4611686018427387904) :
  ∃ v k',Lim F 10 [.gptr 0 0,i64 n] [dk l k] = some (i64 v,[dk l k']) ∧ okd l k' ∧ 0 ≤ v ∧ (v < n ∨ v = 0):=by
 by_cases h:n < 1 ∨ l.length ≤ k
 ·exact ⟨0,k,c_Next_end h,hd,by omega,.inr rfl⟩
 ·obtain ⟨h1,h2⟩:=hd
  have h3:k < l.length:=by omega
  have h4:=c_Next_in (n:=n) (l:=l) (k:=k) (v:=nth l k) (by omega) (get_int h3) (by omega)
  have h5:=modV_range (v:=nth l k) (n:=n) (by omega) hn
  exact ⟨_,_,h4,⟨by omega,h2⟩,h5.1,.inl h5.2⟩
theorem c_New (l:List Int):Lim F 7 [ints l] [] = some (.gptr 0 0,[dk l 0]) :=
 eq_of rfl rfl (by simp [v_mk_New])
end Go.Proofs.YtfjdfnegookkcaaGreat
namespace Go.Proofs.YtfjdfnegookkcaaGreat
set_option linter.all false
open Go.Vm
attribute [local simp] cond_yes cond_yes2 int_beq int_bne
def fsE (f:Nat → Int):Nat → Nat → Int
 | 0,_ => 0
 | m + 1,i => if f i = 0 then fsE f m (i + 1) else f i
theorem fsE_step {f:Nat → Int} {i n:Nat} (h:i < n):fsE f (n - i) i = if f i = 0 then fsE f (n - (i + 1)) (i + 1) else f i:=by
 obtain ⟨m,hm⟩:∃ m,n - i = m + 1:=⟨n - i - 1,by omega⟩
 rw [hm,fsE,show n - (i + 1) = m by omega]
theorem fsE_all {f:Nat → Int}:∀ {m i:Nat},fsE f m i = 0 → ∀ j,i ≤ j → j < i + m → f j = 0
 | 0,i,_,j,h1,h2 => by omega
 | m + 1,i,h,j,h1,h2 => by
   unfold fsE at h
   split at h
   ·rename_i h0
    by_cases hj:j = i
    ·rw [hj];exact h0
    ·exact fsE_all h j (by omega) (by omega)
   ·rename_i h0;exact absurd h h0
theorem fsE_zero {f:Nat → Int}:∀ {m i:Nat},(∀ j,i ≤ j → j < i + m → f j = 0) → fsE f m i = 0
 | 0,i,_ => rfl
 | m + 1,i,h => by
   unfold fsE
   rw [if_pos (h i (by omega) (by omega))]
   exact fsE_zero fun j h1 h2 => h j (by omega) (by omega)
theorem fsE_end {f:Nat → Int} {n:Nat}:fsE f (n - n) n = 0:=by rw [Nat.sub_self];rfl
theorem c_quantity_Within (n m:Int) (G:List GObj):Lim F 41 [i64 n,i64 m] G = some (.bool (decide (0 ≤ n) && decide (n ≤ m)),G) :=
 eq_of rfl rfl (by simp +contextual (disch:=omega) [-getElem?_pos,-List.length_eq_zero_iff,-Int.natCast_eq_zero,wrap64,v_quantity_Within])
theorem c_r01_in (n m:Int) (G:List GObj):Lim F 77 [i64 n,i64 m] G = some (.bool (decide (0 ≤ n) && decide (n ≤ m)),G) :=
 eq_of rfl rfl (by simp +contextual (disch:=omega) [-getElem?_pos,-List.length_eq_zero_iff,-Int.natCast_eq_zero,wrap64,v_r01_in])
theorem c_r01_In (n m:Int) (G:List GObj):Lim F 43 [i64 n,i64 m] G = some (.bool (decide (0 ≤ n) && decide (n ≤ m)),G) :=
 eq_of rfl rfl (by simp +contextual (disch:=omega) [-getElem?_pos,-List.length_eq_zero_iff,-Int.natCast_eq_zero,wrap64,v_r01_In,c_r01_in])
structure Pt where
 x:Int
 y:Int
 deriving Inhabited,DecidableEq
abbrev Pt.row (p:Pt):List V:=[i64 p.x,i64 p.y]
abbrev pts (c:List Pt):V:=.slice none 2 (c.map Pt.row)
def cAt (c:List Pt) (i:Nat):Int :=
 if ¬((0 ≤ (nth c i).x ∧ (nth c i).x ≤ 1073741824) ∧ 0 ≤ (nth c i).y ∧ (nth c i).y ≤ 274877906944) then 1
 else if i = 0 then 0
 else if (nth c i).x ≤ (nth c (i - 1)).x ∨ (nth c i).y < (nth c (i - 1)).y then 4
 else if (4611686018427387904:Int).tdiv ((nth c i).x - (nth c (i - 1)).x) < (nth c i).y - (nth c (i - 1)).y then 1 else 0
def cChk (c:List Pt):Int:=if c.length = 0 then 3 else if 100 < c.length then 10 else fsE (cAt c) c.length 0
theorem cAt_range {c:List Pt} {i:Nat} (h:cAt c i = 0):(0 ≤ (nth c i).x ∧ (nth c i).x ≤ 1073741824) ∧ 0 ≤ (nth c i).y ∧ (nth c i).y ≤ 274877906944:=by
 unfold cAt at h
 split at h
 ·cases h
 ·rename_i h1;exact Decidable.of_not_not h1
theorem cAt_up {c:List Pt} {i:Nat} (h:cAt c i = 0) (hi:0 < i):(nth c (i - 1)).x < (nth c i).x ∧ (nth c (i - 1)).y ≤ (nth c i).y ∧
  (nth c i).y - (nth c (i - 1)).y ≤ (4611686018427387904:Int).tdiv ((nth c i).x - (nth c (i - 1)).x):=by
 unfold cAt at h
 split at h
 ·cases h
 ·rw [if_neg (by omega)] at h
  split at h
  ·cases h
  ·split at h
   ·cases h
   ·omega
theorem c_curve_steep (a b:Int) (h:0 < a) (G:List GObj):Lim F 104 [i64 a,i64 b] G = some (.bool (decide ((4611686018427387904:Int).tdiv a < b)),G) :=
 eq_of rfl rfl (by
  have h1:0 ≤ (4611686018427387904:Int).tdiv a:=Int.tdiv_nonneg (by omega) (by omega)
  have h2:(4611686018427387904:Int).tdiv a ≤ 4611686018427387904:=by
   have:=Int.tdiv_le_self (a:=4611686018427387904) a (by omega)
   omega
  have h3:a ≠ 0:=by omega
  simp +contextual (disch:=omega) [-getElem?_pos,-List.length_eq_zero_iff,-Int.natCast_eq_zero,wrap64,v_curve_steep,h,h3])
theorem c_curve_Check (c:List Pt) (G:List GObj):Lim F 79 [pts c] G = some (i64 (cChk c),G) :=
 eq_of rfl rfl (by
  generalize hW:cChk c = W
  unfold cChk at hW
  simp +contextual (disch:=omega) [-getElem?_pos,-List.length_eq_zero_iff,-Int.natCast_eq_zero,wrap64,v_curve_Check]
  refine cnd_bool (fun h => ?_) (fun h => cnd_dec (fun h' => ?_) (fun h' => ?_))
  ·simp [-List.length_eq_zero_iff,-Int.natCast_eq_zero] at h
   rw [if_pos (by omega)] at hW
   exact hW
  ·simp [-List.length_eq_zero_iff,-Int.natCast_eq_zero] at h
   rw [if_neg (by omega),if_pos (by omega)] at hW
   simpa using hW
  ·have hq:fsE (cAt c) (c.length - 0) 0 = W:=by
    simp [-List.length_eq_zero_iff,-Int.natCast_eq_zero] at h
    rw [if_neg (by omega),if_neg (by omega)] at hW
    exact hW
   refine go_loop (fun i:Nat => v_curve_Check_s0 (pts c) (pts c) c.length i G) (fun i => i ≤ c.length ∧ fsE (cAt c) (c.length - i) i = W ∧ ∀ j,j < i → cAt c j = 0) (fun i => c.length - i) 0 rfl (by simp) ⟨by omega,hq,by omega⟩ ?_
   rintro i ⟨hi,hq,hz⟩
   simp +contextual (disch:=omega) [-getElem?_pos,-List.length_eq_zero_iff,-Int.natCast_eq_zero,wrap64,v_curve_Check_b0]
   refine cnd_dec (fun h1 => ?_) (fun h1 => ?_)
   ·have h1:i < c.length:=by omega
    rw [fsE_step h1] at hq
    have e:=get_nth h1
    simp +contextual (disch:=omega) [-getElem?_pos,-List.length_eq_zero_iff,-Int.natCast_eq_zero,wrap64,get_nth (l:=c),c_quantity_Within]
    refine cnd_bool (fun h2 => ?_) (fun h2 => ?_)
    ·simp +contextual (disch:=omega) [-getElem?_pos,-List.length_eq_zero_iff,-Int.natCast_eq_zero,wrap64,h2,c_quantity_Within]
     simp [-List.length_eq_zero_iff,-Int.natCast_eq_zero] at h2
     rw [show cAt c i = 1 by rw [cAt,if_pos (by omega)],if_neg (by decide)] at hq
     exact hq
    ·simp +contextual (disch:=omega) [-getElem?_pos,-List.length_eq_zero_iff,-Int.natCast_eq_zero,wrap64,h2,c_quantity_Within]
     simp [-List.length_eq_zero_iff,-Int.natCast_eq_zero] at h2
     refine cnd_bool (fun h3 => ?_) (fun h3 => cnd_dec (fun h4 => ?_) (fun h4 => ?_))
     ·simp [-List.length_eq_zero_iff,-Int.natCast_eq_zero] at h3
      rw [show cAt c i = 1 by rw [cAt,if_pos (by omega)],if_neg (by decide)] at hq
      exact hq
     ·simp [-List.length_eq_zero_iff,-Int.natCast_eq_zero] at h3
      have h0:cAt c i = 0:=by rw [cAt,if_neg (by omega),if_pos (by omega)]
      rw [h0,if_pos rfl] at hq
      exact rnd_next (i + 1) (by simp) ⟨by omega,hq,fun j hj => by rcases Nat.lt_or_ge j i with h | h;exact hz j h;rwa [show j = i by omega]⟩ (by omega)
     ·simp [-List.length_eq_zero_iff,-Int.natCast_eq_zero] at h3
      have h5:((i:Int) - 1).toNat = i - 1:=by omega
      have h6:i - 1 < c.length:=by omega
      have h7:0 ≤ (i:Int) - 1:=by omega
      have h8:=cAt_range (hz (i - 1) (by omega))
      simp +contextual (disch:=omega) [-getElem?_pos,-List.length_eq_zero_iff,-Int.natCast_eq_zero,wrap64,get_nth (l:=c),h5,h7]
      refine cnd_bool (fun h9 => ?_) (fun h9 => ?_)
      ·simp [-List.length_eq_zero_iff,-Int.natCast_eq_zero] at h9
       rw [show cAt c i = 4 by rw [cAt,if_neg (by omega),if_neg (by omega),if_pos (by omega)],if_neg (by decide)] at hq
       exact hq
      ·simp [-List.length_eq_zero_iff,-Int.natCast_eq_zero] at h9
       simp +contextual (disch:=omega) [-getElem?_pos,-List.length_eq_zero_iff,-Int.natCast_eq_zero,wrap64,c_curve_steep]
       refine cnd_dec (fun h10 => ?_) (fun h10 => ?_)
       ·rw [show cAt c i = 1 by rw [cAt,if_neg (by omega),if_neg (by omega),if_neg (by omega),if_pos (by omega)],if_neg (by decide)] at hq
        exact hq
       ·have h0:cAt c i = 0:=by rw [cAt,if_neg (by omega),if_neg (by omega),if_neg (by omega),if_neg (by omega)]
        rw [h0,if_pos rfl] at hq
        exact rnd_next (i + 1) (by simp) ⟨by omega,hq,fun j hj => by rcases Nat.lt_or_ge j i with h | h;exact hz j h;rwa [show j = i by omega]⟩ (by omega)
   ·obtain rfl:i = c.length:=by omega
    rw [fsE_end] at hq
    simp [← hq])
theorem c_r02_Check (c:List Pt) (G:List GObj):Lim F 71 [pts c] G = some (i64 (cChk c),G) :=
 eq_of rfl rfl (by
  generalize hW:cChk c = W
  unfold cChk at hW
  simp +contextual (disch:=omega) [-getElem?_pos,-List.length_eq_zero_iff,-Int.natCast_eq_zero,wrap64,v_r02_Check]
  refine cnd_bool (fun h => ?_) (fun h => cnd_dec (fun h' => ?_) (fun h' => ?_))
  ·simp [-List.length_eq_zero_iff,-Int.natCast_eq_zero] at h
   rw [if_pos (by omega)] at hW
   exact hW
  ·simp [-List.length_eq_zero_iff,-Int.natCast_eq_zero] at h
   rw [if_neg (by omega),if_pos (by omega)] at hW
   simpa using hW
  ·have hq:fsE (cAt c) (c.length - 0) 0 = W:=by
    simp [-List.length_eq_zero_iff,-Int.natCast_eq_zero] at h
    rw [if_neg (by omega),if_neg (by omega)] at hW
    exact hW
   refine go_loop (fun i:Nat => v_r02_Check_s0 (pts c) (pts c) c.length i G) (fun i => i ≤ c.length ∧ fsE (cAt c) (c.length - i) i = W ∧ ∀ j,j < i → cAt c j = 0) (fun i => c.length - i) 0 rfl (by simp) ⟨by omega,hq,by omega⟩ ?_
   rintro i ⟨hi,hq,hz⟩
   simp +contextual (disch:=omega) [-getElem?_pos,-List.length_eq_zero_iff,-Int.natCast_eq_zero,wrap64,v_r02_Check_b0]
   refine cnd_dec (fun h1 => ?_) (fun h1 => ?_)
   ·have h1:i < c.length:=by omega
    rw [fsE_step h1] at hq
    have e:=get_nth h1
    simp +contextual (disch:=omega) [-getElem?_pos,-List.length_eq_zero_iff,-Int.natCast_eq_zero,wrap64,get_nth (l:=c),c_r01_In]
    refine cnd_bool (fun h2 => ?_) (fun h2 => ?_)
    ·simp +contextual (disch:=omega) [-getElem?_pos,-List.length_eq_zero_iff,-Int.natCast_eq_zero,wrap64,h2,c_r01_In]
     simp [-List.length_eq_zero_iff,-Int.natCast_eq_zero] at h2
     rw [show cAt c i = 1 by rw [cAt,if_pos (by omega)],if_neg (by decide)] at hq
     exact hq
    ·simp +contextual (disch:=omega) [-getElem?_pos,-List.length_eq_zero_iff,-Int.natCast_eq_zero,wrap64,h2,c_r01_In]
     simp [-List.length_eq_zero_iff,-Int.natCast_eq_zero] at h2
     refine cnd_bool (fun h3 => ?_) (fun h3 => cnd_dec (fun h4 => ?_) (fun h4 => ?_))
     ·simp [-List.length_eq_zero_iff,-Int.natCast_eq_zero] at h3
      rw [show cAt c i = 1 by rw [cAt,if_pos (by omega)],if_neg (by decide)] at hq
      exact hq
     ·simp [-List.length_eq_zero_iff,-Int.natCast_eq_zero] at h3
      have h0:cAt c i = 0:=by rw [cAt,if_neg (by omega),if_pos (by omega)]
      rw [h0,if_pos rfl] at hq
      exact rnd_next (i + 1) (by simp) ⟨by omega,hq,fun j hj => by rcases Nat.lt_or_ge j i with h | h;exact hz j h;rwa [show j = i by omega]⟩ (by omega)
     ·simp [-List.length_eq_zero_iff,-Int.natCast_eq_zero] at h3
      have h5:((i:Int) - 1).toNat = i - 1:=by omega
      have h6:i - 1 < c.length:=by omega
      have h7:0 ≤ (i:Int) - 1:=by omega
      have h8:=cAt_range (hz (i - 1) (by omega))
      simp +contextual (disch:=omega) [-getElem?_pos,-List.length_eq_zero_iff,-Int.natCast_eq_zero,wrap64,get_nth (l:=c),h5,h7]
      refine cnd_bool (fun h9 => ?_) (fun h9 => ?_)
      ·simp [-List.length_eq_zero_iff,-Int.natCast_eq_zero] at h9
       rw [show cAt c i = 4 by rw [cAt,if_neg (by omega),if_neg (by omega),if_pos (by omega)],if_neg (by decide)] at hq
       exact hq
      ·simp [-List.length_eq_zero_iff,-Int.natCast_eq_zero] at h9
       have h11:(nth c i).x - (nth c (i - 1)).x ≠ 0:=by omega
       have h12:(4611686018427387904:Int).tdiv ((nth c i).x - (nth c (i - 1)).x) ≤ 4611686018427387904:=by
        have:=Int.tdiv_le_self (a:=4611686018427387904) ((nth c i).x - (nth c (i - 1)).x) (by omega)
        omega
       have h13:0 ≤ (4611686018427387904:Int).tdiv ((nth c i).x - (nth c (i - 1)).x):=Int.tdiv_nonneg (by omega) (by omega)
       simp +contextual (disch:=omega) [-getElem?_pos,-List.length_eq_zero_iff,-Int.natCast_eq_zero,wrap64,h11]
       refine cnd_dec (fun h10 => ?_) (fun h10 => ?_)
       ·rw [show cAt c i = 1 by rw [cAt,if_neg (by omega),if_neg (by omega),if_neg (by omega),if_pos (by omega)],if_neg (by decide)] at hq
        exact hq
       ·have h0:cAt c i = 0:=by rw [cAt,if_neg (by omega),if_neg (by omega),if_neg (by omega),if_neg (by omega)]
        rw [h0,if_pos rfl] at hq
        exact rnd_next (i + 1) (by simp) ⟨by omega,hq,fun j hj => by rcases Nat.lt_or_ge j i with h | h;exact hz j h;rwa [show j = i by omega]⟩ (by omega)
   ·obtain rfl:i = c.length:=by omega
    rw [fsE_end] at hq
    simp [← hq])
end Go.Proofs.YtfjdfnegookkcaaGreat
namespace Go.Proofs.YtfjdfnegookkcaaGreat
set_option linter.all false
open Go.Vm
attribute [local simp] cond_yes cond_yes2 int_beq int_bne
def ipol (c:List Pt) (i:Nat) (x:Int):Int :=
 (nth c (i - 1)).y + (((nth c i).y - (nth c (i - 1)).y) * (x - (nth c (i - 1)).x)).tdiv ((nth c i).x - (nth c (i - 1)).x)
def cvF (c:List Pt) (x:Int):Nat → Nat → Int
 | 0,_ => (nth c (c.length - 1)).y
 | m + 1,i => if x ≤ (nth c i).x then (if i = 0 then (nth c i).y else ipol c i x) else cvF c x m (i + 1)
def cval (c:List Pt) (x:Int):Int:=cvF c x c.length 0
structure Cv (c:List Pt):Prop where
 pos:0 < c.length
 few:c.length ≤ 100
 x0:∀ i,i < c.length → 0 ≤ (nth c i).x ∧ (nth c i).x ≤ 1073741824
 y0:∀ i,i < c.length → 0 ≤ (nth c i).y ∧ (nth c i).y ≤ 274877906944
 up:∀ i,0 < i → i < c.length → (nth c (i - 1)).x < (nth c i).x
 mono:∀ i,0 < i → i < c.length → (nth c (i - 1)).y ≤ (nth c i).y
 prod:∀ i,0 < i → i < c.length → ((nth c i).y - (nth c (i - 1)).y) * ((nth c i).x - (nth c (i - 1)).x) ≤ 4611686018427387904
theorem cv_of {c:List Pt} (h:cChk c = 0):Cv c:=by
 unfold cChk at h
 split at h
 ·cases h
 ·split at h
  ·cases h
  ·have hz:∀ i,i < c.length → cAt c i = 0:=fun i hi => fsE_all h i (by omega) (by omega)
   refine ⟨by omega,by omega,fun i hi => (cAt_range (hz i hi)).1,fun i hi => (cAt_range (hz i hi)).2,fun i h0 hi => (cAt_up (hz i hi) h0).1,fun i h0 hi => (cAt_up (hz i hi) h0).2.1,fun i h0 hi => ?_⟩
   obtain ⟨h1,h2,h3⟩:=cAt_up (hz i hi) h0
   generalize hdx:(nth c i).x - (nth c (i - 1)).x = dx at *
   generalize hdy:(nth c i).y - (nth c (i - 1)).y = dy at *
   have h4:(4611686018427387904:Int).tdiv dx * dx ≤ 4611686018427387904:=by
    have:=Int.mul_tdiv_add_tmod 4611686018427387904 dx
    rw [Int.mul_comm] at this
    have:=Int.tmod_nonneg (a:=4611686018427387904) dx (by omega)
    omega
   exact Int.le_trans (Int.mul_le_mul_of_nonneg_right h3 (by omega)) h4
theorem Cv.lt {c:List Pt} (h:Cv c):∀ {i j:Nat},i < j → j < c.length → (nth c i).x < (nth c j).x:=by
 intro i j hij hj
 induction j with
 | zero => omega
 | succ j ih =>
   have:=h.up (j + 1) (by omega) hj
   simp at this
   rcases Nat.lt_or_ge i j with h1 | h1
   ·have:=ih h1 (by omega);omega
   ·obtain rfl:i = j:=by omega
    exact this
theorem Cv.le {c:List Pt} (h:Cv c):∀ {i j:Nat},i ≤ j → j < c.length → (nth c i).y ≤ (nth c j).y:=by
 intro i j hij hj
 induction j with
 | zero => obtain rfl:i = 0:=by omega
           omega
 | succ j ih =>
   have:=h.mono (j + 1) (by omega) hj
   simp at this
   rcases Nat.lt_or_ge j i with h1 | h1
   ·obtain rfl:i = j + 1:=by omega
    omega
   ·have:=ih h1 (by omega);omega
theorem ipol_nums {c:List Pt} (h:Cv c) {i:Nat} {x:Int} (h0:0 < i) (hi:i < c.length) (h1:(nth c (i - 1)).x ≤ x) (h2:x ≤ (nth c i).x) :
  0 ≤ ((nth c i).y - (nth c (i - 1)).y) * (x - (nth c (i - 1)).x) ∧ ((nth c i).y - (nth c (i - 1)).y) * (x - (nth c (i - 1)).x) ≤ 4611686018427387904 ∧
  0 ≤ (((nth c i).y - (nth c (i - 1)).y) * (x - (nth c (i - 1)).x)).tdiv ((nth c i).x - (nth c (i - 1)).x) ∧
  (((nth c i).y - (nth c (i - 1)).y) * (x - (nth c (i - 1)).x)).tdiv ((nth c i).x - (nth c (i - 1)).x) ≤ (nth c i).y - (nth c (i - 1)).y:=by
 have h3:=h.up i h0 hi
 have h4:=h.mono i h0 hi
 have h5:=h.prod i h0 hi
 generalize hdx:(nth c i).x - (nth c (i - 1)).x = dx at *
 generalize hdy:(nth c i).y - (nth c (i - 1)).y = dy at *
 generalize ht:x - (nth c (i - 1)).x = t at *
 have h6:0 ≤ dy * t:=Int.mul_nonneg (by omega) (by omega)
 have h7:dy * t ≤ dy * dx:=Int.mul_le_mul_of_nonneg_left (by omega) (by omega)
 refine ⟨h6,by omega,Int.tdiv_nonneg h6 (by omega),?_⟩
 have h8:=Int.tdiv_le_tdiv (a:=dy * t) (b:=dy * dx) (c:=dx) (by omega) h7
 rwa [Int.mul_tdiv_cancel _ (by omega)] at h8
theorem cvF_skip {c:List Pt} {x:Int} {n:Nat}:∀ {k i:Nat},i ≤ k → k ≤ n → (∀ j,i ≤ j → j < k → (nth c j).x < x) → cvF c x (n - i) i = cvF c x (n - k) k:=by
 intro k
 induction k with
 | zero => intro i h1 _ _;obtain rfl:i = 0:=by omega
           rfl
 | succ k ih =>
   intro i h1 h2 h3
   rcases Nat.lt_or_ge k i with h | h
   ·obtain rfl:i = k + 1:=by omega
    rfl
   ·rw [ih h (by omega) (fun j a b => h3 j a (by omega))]
    obtain ⟨m,hm⟩:∃ m,n - k = m + 1:=⟨n - k - 1,by omega⟩
    have:=h3 k h (by omega)
    rw [hm,cvF,if_neg (by omega),show n - (k + 1) = m by omega]
theorem cvF_at {c:List Pt} {x:Int} {n i:Nat} (hi:i < n) (h:x ≤ (nth c i).x):cvF c x (n - i) i = if i = 0 then (nth c i).y else ipol c i x:=by
 obtain ⟨m,hm⟩:∃ m,n - i = m + 1:=⟨n - i - 1,by omega⟩
 rw [hm,cvF,if_pos h]
theorem cval_first {c:List Pt} {x:Int} (h:Cv c) (h1:x ≤ (nth c 0).x):cval c x = (nth c 0).y:=by
 have:=cvF_at (c:=c) (x:=x) (n:=c.length) h.pos h1
 simpa [cval] using this
theorem cval_mid {c:List Pt} {x:Int} {i:Nat} (h:Cv c) (h0:0 < i) (hi:i < c.length) (h1:(nth c (i - 1)).x ≤ x) (h2:x ≤ (nth c i).x):cval c x = ipol c i x:=by
 have up:=h.up i h0 hi
 by_cases hx:(nth c (i - 1)).x < x
 ·have:=cvF_skip (c:=c) (x:=x) (n:=c.length) (i:=0) (k:=i) (by omega) (by omega) (fun j _ hj => by
   rcases Nat.lt_or_ge j (i - 1) with h3 | h3
   ·have:=h.lt h3 (by omega);omega
   ·obtain rfl:j = i - 1:=by omega
    exact hx)
  rw [cvF_at hi h2,if_neg (by omega)] at this
  simpa [cval] using this
 ·have hx:x = (nth c (i - 1)).x:=by omega
  subst hx
  have:=cvF_skip (c:=c) (x:=(nth c (i - 1)).x) (n:=c.length) (i:=0) (k:=i - 1) (by omega) (by omega) (fun j _ hj => h.lt (by omega) (by omega))
  rw [cvF_at (n:=c.length) (i:=i - 1) (by omega) (by omega)] at this
  have e:ipol c i (nth c (i - 1)).x = (nth c (i - 1)).y:=by simp [ipol]
  rw [e]
  simp only [Nat.sub_zero] at this
  rw [cval,this]
  split
  ·rfl
  ·rename_i h3
   have h4:=h.up (i - 1) (by omega) (by omega)
   rw [ipol,Int.mul_tdiv_cancel _ (by omega)]
   omega
theorem cval_last {c:List Pt} {x:Int} (h:Cv c) (h1:(nth c (c.length - 1)).x ≤ x):cval c x = (nth c (c.length - 1)).y:=by
 have hp:=h.pos
 rcases Nat.lt_or_ge 1 c.length with h2 | h2
 ·by_cases hx:(nth c (c.length - 1)).x < x
  ·have:=cvF_skip (c:=c) (x:=x) (n:=c.length) (i:=0) (k:=c.length) (by omega) (by omega) (fun j _ hj => by
    rcases Nat.lt_or_ge j (c.length - 1) with h3 | h3
    ·have:=h.lt h3 (by omega);omega
    ·obtain rfl:j = c.length - 1:=by omega
     exact hx)
   simp only [Nat.sub_zero,Nat.sub_self] at this
   rw [cval,this,cvF]
  ·obtain rfl:x = (nth c (c.length - 1)).x:=by omega
   have hu:=h.up (c.length - 1) (by omega) (by omega)
   rw [cval_mid h (i:=c.length - 1) (by omega) (by omega) (by omega) (by omega),ipol,Int.mul_tdiv_cancel _ (by omega)]
   omega
 ·by_cases hx:x ≤ (nth c 0).x
  ·rw [cval_first h hx,show c.length - 1 = 0 by omega]
  ·have:=cvF_skip (c:=c) (x:=x) (n:=c.length) (i:=0) (k:=c.length) (by omega) (by omega) (fun j _ hj => by
    obtain rfl:j = 0:=by omega
    omega)
   simp only [Nat.sub_zero,Nat.sub_self] at this
   rw [cval,this,cvF]
theorem cv_cases {c:List Pt} (h:Cv c) (x:Int):x ≤ (nth c 0).x ∨ (∃ i,0 < i ∧ i < c.length ∧ (nth c (i - 1)).x ≤ x ∧ x ≤ (nth c i).x) ∨ (nth c (c.length - 1)).x ≤ x:=by
 have hp:=h.pos
 by_cases h1:x ≤ (nth c 0).x
 ·exact .inl h1
 ·have:∀ k,k < c.length → (∃ i,0 < i ∧ i ≤ k ∧ (nth c (i - 1)).x ≤ x ∧ x ≤ (nth c i).x) ∨ (nth c k).x ≤ x:=by
   intro k
   induction k with
   | zero => intro _;right;omega
   | succ k ih =>
     intro hk
     rcases ih (by omega) with ⟨i,a,b,d,e⟩ | h2
     ·exact .inl ⟨i,a,by omega,d,e⟩
     ·by_cases h3:x ≤ (nth c (k + 1)).x
      ·exact .inl ⟨k + 1,by omega,by omega,h2,h3⟩
      ·right;omega
  rcases this (c.length - 1) (by omega) with ⟨i,a,b,d,e⟩ | h2
  ·exact .inr (.inl ⟨i,a,by omega,d,e⟩)
  ·exact .inr (.inr h2)
theorem cval_range {c:List Pt} (h:Cv c) (x:Int):(nth c 0).y ≤ cval c x ∧ cval c x ≤ (nth c (c.length - 1)).y:=by
 have hp:=h.pos
 have h0:=h.le (i:=0) (j:=c.length - 1) (by omega) (by omega)
 rcases cv_cases h x with h1 | ⟨i,a,b,d,e⟩ | h1
 ·rw [cval_first h h1];omega
 ·rw [cval_mid h a b d e]
  have h2:=ipol_nums h a b d e
  have h3:=h.le (i:=0) (j:=i - 1) (by omega) (by omega)
  have h4:=h.le (i:=i) (j:=c.length - 1) (by omega) (by omega)
  unfold ipol
  omega
 ·rw [cval_last h h1];omega
theorem c_curve_Value {c:List Pt} (h:Cv c) (x:Int) (G:List GObj):Lim F 108 [pts c,i64 x] G = some (i64 (cval c x),G) :=
 eq_of rfl rfl (by
  have hp:=h.pos
  have hf:=h.few
  generalize hW:cval c x = W
  simp +contextual (disch:=omega) [-getElem?_pos,-List.length_eq_zero_iff,-Int.natCast_eq_zero,wrap64,v_curve_Value]
  refine go_loop (fun i:Nat => v_curve_Value_s0 (pts c) x (pts c) c.length i G) (fun i => i ≤ c.length ∧ cvF c x (c.length - i) i = W ∧ (0 < i → (nth c (i - 1)).x < x)) (fun i => c.length - i) 0 rfl (by simp) ⟨by omega,hW,by omega⟩ ?_
  rintro i ⟨hi,hq,hl⟩
  simp +contextual (disch:=omega) [-getElem?_pos,-List.length_eq_zero_iff,-Int.natCast_eq_zero,wrap64,v_curve_Value_b0]
  refine cnd_dec (fun h1 => ?_) (fun h1 => ?_)
  ·have h1:i < c.length:=by omega
   simp +contextual (disch:=omega) [-getElem?_pos,-List.length_eq_zero_iff,-Int.natCast_eq_zero,wrap64,get_nth (l:=c)]
   refine cnd_bool (fun h2 => ?_) (fun h2 => cnd_dec (fun h3 => ?_) (fun h3 => ?_))
   ·simp [-List.length_eq_zero_iff,-Int.natCast_eq_zero] at h2
    obtain rfl:i = 0:=by omega
    rw [cvF_at h1 h2.1,if_pos rfl] at hq
    exact hq
   ·simp [-List.length_eq_zero_iff,-Int.natCast_eq_zero] at h2
    have h4:0 < i:=by omega
    have h5:1 ≤ (i:Int):=by omega
    have h6:i - 1 < c.length:=by omega
    have h9:=hl h4
    have h7:=ipol_nums h h4 h1 (by omega) h3
    have h8:=h.up i h4 h1
    have h10:=h.x0 i h1
    have h11:=h.x0 (i - 1) h6
    have h12:=h.y0 i h1
    have h13:=h.y0 (i - 1) h6
    have h14:(nth c i).x - (nth c (i - 1)).x ≠ 0:=by omega
    rw [cvF_at h1 h3,if_neg (by omega),ipol] at hq
    simp +contextual (disch:=omega) [-getElem?_pos,-List.length_eq_zero_iff,-Int.natCast_eq_zero,wrap64,get_nth (l:=c),h5,h14]
    exact hq
   ·simp [-List.length_eq_zero_iff,-Int.natCast_eq_zero] at h2
    have:=cvF_skip (c:=c) (x:=x) (n:=c.length) (i:=i) (k:=i + 1) (by omega) (by omega) (fun j a b => by
     obtain rfl:j = i:=by omega
     omega)
    rw [this] at hq
    exact rnd_next (i + 1) (by simp) ⟨by omega,hq,fun _ => by simp;omega⟩ (by omega)
  ·obtain rfl:i = c.length:=by omega
   have h2:((c.length:Int) - 1).toNat = c.length - 1:=by omega
   rw [Nat.sub_self,cvF] at hq
   simp +contextual (disch:=omega) [-getElem?_pos,-List.length_eq_zero_iff,-Int.natCast_eq_zero,wrap64,get_nth (l:=c),h2]
   exact hq)
theorem c_r02_at {c:List Pt} (h:Cv c) (x:Int) (G:List GObj):Lim F 72 [pts c,i64 x] G = some (i64 (cval c x),G) :=
 eq_of rfl rfl (by
  have hp:=h.pos
  have hf:=h.few
  generalize hW:cval c x = W
  simp +contextual (disch:=omega) [-getElem?_pos,-List.length_eq_zero_iff,-Int.natCast_eq_zero,wrap64,v_r02_at,get_nth (l:=c)]
  refine cnd_dec (fun h1 => ?_) (fun h1 => ?_)
  ·rw [cval_first h h1] at hW
   exact hW
  ·refine go_loop (fun i:Nat => v_r02_at_s0 (pts c) x (i + 1) G) (fun i => i + 1 ≤ c.length ∧ (nth c i).x ≤ x) (fun i => c.length - i) 0 rfl (by simp) ⟨by omega,by omega⟩ ?_
   rintro i ⟨hi,hl⟩
   simp +contextual (disch:=omega) [-getElem?_pos,-List.length_eq_zero_iff,-Int.natCast_eq_zero,wrap64,v_r02_at_b0]
   refine cnd_dec (fun h2 => ?_) (fun h2 => ?_)
   ·have h2:i + 1 < c.length:=by omega
    have h3:((i:Int) + 1).toNat = i + 1:=by omega
    simp +contextual (disch:=omega) [-getElem?_pos,-List.length_eq_zero_iff,-Int.natCast_eq_zero,wrap64,get_nth (l:=c),h3]
    refine cnd_dec (fun h4 => ?_) (fun h4 => ?_)
    ·have h7:=ipol_nums h (i:=i + 1) (x:=x) (by omega) h2 (by simpa using hl) (by omega)
     have h8:=h.up (i + 1) (by omega) h2
     have h10:=h.x0 (i + 1) h2
     have h11:=h.x0 i (by omega)
     have h12:=h.y0 (i + 1) h2
     have h13:=h.y0 i (by omega)
     rw [cval_mid h (i:=i + 1) (by omega) h2 (by simpa using hl) (by omega),ipol] at hW
     simp only [Nat.add_sub_cancel] at h7 h8 hW
     have h14:(nth c (i + 1)).x - (nth c i).x ≠ 0:=by omega
     simp +contextual (disch:=omega) [-getElem?_pos,-List.length_eq_zero_iff,-Int.natCast_eq_zero,wrap64,get_nth (l:=c),h14]
     exact hW
    ·exact rnd_next (i + 1) (by simp) ⟨by omega,by omega⟩ (by omega)
   ·obtain rfl:c.length - 1 = i:=by omega
    have h3:((c.length:Int) - 1).toNat = c.length - 1:=by omega
    rw [cval_last h hl] at hW
    simp +contextual (disch:=omega) [-getElem?_pos,-List.length_eq_zero_iff,-Int.natCast_eq_zero,wrap64,get_nth (l:=c),h3]
    exact hW)
theorem c_r02_At (c:List Pt) (x:Int) (G:List GObj):Lim F 38 [pts c,i64 x] G = some (.tuple [i64 (if cChk c = 0 then cval c x else 0),i64 (cChk c)],G) :=
 eq_of rfl rfl (by
  by_cases h:cChk c = 0
  ·simp +contextual (disch:=omega) [-getElem?_pos,-List.length_eq_zero_iff,-Int.natCast_eq_zero,wrap64,v_r02_At,c_r02_Check,h,c_r02_at (cv_of h)]
  ·simp +contextual (disch:=omega) [-getElem?_pos,-List.length_eq_zero_iff,-Int.natCast_eq_zero,wrap64,v_r02_At,c_r02_Check,h])
end Go.Proofs.YtfjdfnegookkcaaGreat
namespace Go.Proofs.YtfjdfnegookkcaaGreat
set_option linter.all false
open Go.Vm
attribute [local simp] cond_yes cond_yes2 int_beq int_bne
structure Bd where
 lo:Int
 hi:Int
 deriving Inhabited,DecidableEq
abbrev Bd.row (b:Bd):List V:=[i64 b.lo,i64 b.hi]
abbrev bds (l:List Bd):V:=.slice none 2 (l.map Bd.row)
structure Un where
 table:List Pt
 least:Int
 most:Int
 rough:List Bd
 up:Int
 down:Int
 deriving Inhabited,DecidableEq
abbrev Un.row (u:Un):List V:=[pts u.table,i64 u.least,i64 u.most,bds u.rough,i64 u.up,i64 u.down]
abbrev un (u:Un):V:=.agg u.row
def zAt (z:List Bd) (i:Nat):Int :=
 if ¬((0 ≤ (nth z i).lo ∧ (nth z i).lo ≤ 1073741824) ∧ 0 ≤ (nth z i).hi ∧ (nth z i).hi ≤ 1073741824) then 1 else if (nth z i).hi ≤ (nth z i).lo then 4 else 0
def uChk (u:Un):Int :=
 if cChk u.table ≠ 0 then cChk u.table
 else if 1073741824 < (nth u.table (u.table.length - 1)).y then 1
 else if u.least < 1 ∨ u.most < u.least ∨ 1073741824 < u.most then 1
 else if 10 < u.rough.length then 10
 else if fsE (zAt u.rough) u.rough.length 0 ≠ 0 then fsE (zAt u.rough) u.rough.length 0
 else if ¬((0 ≤ u.up ∧ u.up ≤ 1000) ∧ 0 ≤ u.down ∧ u.down ≤ 1000) then 1 else 0
theorem cv_pos {c:List Pt} (h:cChk c = 0):0 < c.length:=(cv_of h).pos
theorem c_unit_Check (u:Un) (G:List GObj):Lim F 47 [un u] G = some (i64 (uChk u),G) :=
 eq_of rfl rfl (by
  obtain ⟨c,least,most,z,up,down⟩:=u
  generalize hW:uChk ⟨c,least,most,z,up,down⟩ = W
  unfold uChk at hW
  simp only at hW
  by_cases hc:cChk c = 0
  ·have hp:=cv_pos hc
   have hf:=(cv_of hc).few
   have h2:((c.length:Int) - 1).toNat = c.length - 1:=by omega
   rw [if_neg (by simpa using hc)] at hW
   simp +contextual (disch:=omega) [-getElem?_pos,-List.length_eq_zero_iff,-Int.natCast_eq_zero,wrap64,v_unit_Check,c_curve_Check,hc,get_nth (l:=c),h2]
   refine cnd_dec (fun h3 => ?_) (fun h3 => ?_)
   ·rw [if_pos (by omega)] at hW
    exact hW
   refine cnd_bool (fun h4 => ?_) (fun h4 => ?_)
   ·simp [-List.length_eq_zero_iff,-Int.natCast_eq_zero] at h4
    rw [if_neg (by omega),if_pos (by omega)] at hW
    exact hW
   simp [-List.length_eq_zero_iff,-Int.natCast_eq_zero] at h4
   rw [if_neg (by omega),if_neg (by omega)] at hW
   refine cnd_dec (fun h5 => ?_) (fun h5 => ?_)
   ·rw [if_pos (by omega)] at hW
    exact hW
   rw [if_neg (by omega)] at hW
   refine go_loop (fun i:Nat => v_unit_Check_s0 (bds z) z.length i [pts c,i64 least,i64 most,bds z,i64 up,i64 down] G) (fun i => i ≤ z.length ∧ fsE (zAt z) (z.length - i) i = fsE (zAt z) z.length 0) (fun i => z.length - i) 0 rfl (by simp) ⟨by omega,rfl⟩ ?_
   rintro i ⟨hi,hq⟩
   simp +contextual (disch:=omega) [-getElem?_pos,-List.length_eq_zero_iff,-Int.natCast_eq_zero,wrap64,v_unit_Check_b0]
   refine cnd_dec (fun h1 => ?_) (fun h1 => ?_)
   ·have h1:i < z.length:=by omega
    rw [fsE_step h1] at hq
    simp +contextual (disch:=omega) [-getElem?_pos,-List.length_eq_zero_iff,-Int.natCast_eq_zero,wrap64,get_nth (l:=z),c_quantity_Within]
    refine cnd_bool (fun h6 => ?_) (fun h6 => ?_)
    ·simp +contextual (disch:=omega) [-getElem?_pos,-List.length_eq_zero_iff,-Int.natCast_eq_zero,wrap64,h6,c_quantity_Within]
     simp [-List.length_eq_zero_iff,-Int.natCast_eq_zero] at h6
     rw [show zAt z i = 1 by rw [zAt,if_pos (by omega)],if_neg (by decide)] at hq
     rw [← hq,if_pos (by decide)] at hW
     exact hW
    ·simp +contextual (disch:=omega) [-getElem?_pos,-List.length_eq_zero_iff,-Int.natCast_eq_zero,wrap64,h6,c_quantity_Within]
     simp [-List.length_eq_zero_iff,-Int.natCast_eq_zero] at h6
     refine cnd_bool (fun h7 => ?_) (fun h7 => cnd_dec (fun h8 => ?_) (fun h8 => ?_))
     ·simp [-List.length_eq_zero_iff,-Int.natCast_eq_zero] at h7
      rw [show zAt z i = 1 by rw [zAt,if_pos (by omega)],if_neg (by decide)] at hq
      rw [← hq,if_pos (by decide)] at hW
      exact hW
     ·simp [-List.length_eq_zero_iff,-Int.natCast_eq_zero] at h7
      rw [show zAt z i = 4 by rw [zAt,if_neg (by omega),if_pos (by omega)],if_neg (by decide)] at hq
      rw [← hq,if_pos (by decide)] at hW
      exact hW
     ·simp [-List.length_eq_zero_iff,-Int.natCast_eq_zero] at h7
      rw [show zAt z i = 0 by rw [zAt,if_neg (by omega),if_neg (by omega)],if_pos rfl] at hq
      exact rnd_next (i + 1) (by simp) ⟨by omega,hq⟩ (by omega)
   ·obtain rfl:i = z.length:=by omega
    rw [fsE_end] at hq
    rw [← hq,if_neg (by decide)] at hW
    simp +contextual (disch:=omega) [-getElem?_pos,-List.length_eq_zero_iff,-Int.natCast_eq_zero,wrap64,c_quantity_Within]
    refine cnd_bool (fun h6 => ?_) (fun h6 => ?_)
    ·simp +contextual (disch:=omega) [-getElem?_pos,-List.length_eq_zero_iff,-Int.natCast_eq_zero,wrap64,h6,c_quantity_Within]
     simp [-List.length_eq_zero_iff,-Int.natCast_eq_zero] at h6
     rw [if_pos (by omega)] at hW
     exact hW
    ·simp +contextual (disch:=omega) [-getElem?_pos,-List.length_eq_zero_iff,-Int.natCast_eq_zero,wrap64,h6,c_quantity_Within]
     simp [-List.length_eq_zero_iff,-Int.natCast_eq_zero] at h6
     refine cnd_bool (fun h7 => ?_) (fun h7 => ?_)
     ·simp [-List.length_eq_zero_iff,-Int.natCast_eq_zero] at h7
      rw [if_pos (by omega)] at hW
      exact hW
     ·simp [-List.length_eq_zero_iff,-Int.natCast_eq_zero] at h7
      rw [if_neg (by omega)] at hW
      exact hW
  ·rw [if_pos (by simpa using hc)] at hW
   simp +contextual (disch:=omega) [-getElem?_pos,-List.length_eq_zero_iff,-Int.natCast_eq_zero,wrap64,v_unit_Check,c_curve_Check,hc]
   exact hW)
theorem c_r18_Check (u:Un) (G:List GObj):Lim F 50 [un u] G = some (i64 (uChk u),G) :=
 eq_of rfl rfl (by
  obtain ⟨c,least,most,z,up,down⟩:=u
  generalize hW:uChk ⟨c,least,most,z,up,down⟩ = W
  unfold uChk at hW
  simp only at hW
  by_cases hc:cChk c = 0
  ·have hp:=cv_pos hc
   have hf:=(cv_of hc).few
   have h2:((c.length:Int) - 1).toNat = c.length - 1:=by omega
   rw [if_neg (by simpa using hc)] at hW
   simp +contextual (disch:=omega) [-getElem?_pos,-List.length_eq_zero_iff,-Int.natCast_eq_zero,wrap64,v_r18_Check,c_r02_Check,hc,get_nth (l:=c),h2]
   refine cnd_bool (fun h4 => ?_) (fun h4 => ?_)
   ·simp [-List.length_eq_zero_iff,-Int.natCast_eq_zero] at h4
    by_cases h3:1073741824 < (nth c (c.length - 1)).y
    ·rw [if_pos h3] at hW
     exact hW
    ·rw [if_neg h3,if_pos (by omega)] at hW
     exact hW
   simp [-List.length_eq_zero_iff,-Int.natCast_eq_zero] at h4
   rw [if_neg (by omega),if_neg (by omega)] at hW
   refine cnd_dec (fun h5 => ?_) (fun h5 => ?_)
   ·rw [if_pos (by omega)] at hW
    exact hW
   rw [if_neg (by omega)] at hW
   refine go_loop (fun i:Nat => v_r18_Check_s0 (bds z) z.length i [pts c,i64 least,i64 most,bds z,i64 up,i64 down] G) (fun i => i ≤ z.length ∧ fsE (zAt z) (z.length - i) i = fsE (zAt z) z.length 0) (fun i => z.length - i) 0 rfl (by simp) ⟨by omega,rfl⟩ ?_
   rintro i ⟨hi,hq⟩
   simp +contextual (disch:=omega) [-getElem?_pos,-List.length_eq_zero_iff,-Int.natCast_eq_zero,wrap64,v_r18_Check_b0]
   refine cnd_dec (fun h1 => ?_) (fun h1 => ?_)
   ·have h1:i < z.length:=by omega
    rw [fsE_step h1] at hq
    simp +contextual (disch:=omega) [-getElem?_pos,-List.length_eq_zero_iff,-Int.natCast_eq_zero,wrap64,get_nth (l:=z),c_r01_In]
    refine cnd_bool (fun h6 => ?_) (fun h6 => ?_)
    ·simp +contextual (disch:=omega) [-getElem?_pos,-List.length_eq_zero_iff,-Int.natCast_eq_zero,wrap64,h6,c_r01_In]
     simp [-List.length_eq_zero_iff,-Int.natCast_eq_zero] at h6
     rw [show zAt z i = 1 by rw [zAt,if_pos (by omega)],if_neg (by decide)] at hq
     rw [← hq,if_pos (by decide)] at hW
     exact hW
    ·simp +contextual (disch:=omega) [-getElem?_pos,-List.length_eq_zero_iff,-Int.natCast_eq_zero,wrap64,h6,c_r01_In]
     simp [-List.length_eq_zero_iff,-Int.natCast_eq_zero] at h6
     refine cnd_bool (fun h7 => ?_) (fun h7 => cnd_dec (fun h8 => ?_) (fun h8 => ?_))
     ·simp [-List.length_eq_zero_iff,-Int.natCast_eq_zero] at h7
      rw [show zAt z i = 1 by rw [zAt,if_pos (by omega)],if_neg (by decide)] at hq
      rw [← hq,if_pos (by decide)] at hW
      exact hW
     ·simp [-List.length_eq_zero_iff,-Int.natCast_eq_zero] at h7
      rw [show zAt z i = 4 by rw [zAt,if_neg (by omega),if_pos (by omega)],if_neg (by decide)] at hq
      rw [← hq,if_pos (by decide)] at hW
      exact hW
     ·simp [-List.length_eq_zero_iff,-Int.natCast_eq_zero] at h7
      rw [show zAt z i = 0 by rw [zAt,if_neg (by omega),if_neg (by omega)],if_pos rfl] at hq
      exact rnd_next (i + 1) (by simp) ⟨by omega,hq⟩ (by omega)
   ·obtain rfl:i = z.length:=by omega
    rw [fsE_end] at hq
    rw [← hq,if_neg (by decide)] at hW
    simp +contextual (disch:=omega) [-getElem?_pos,-List.length_eq_zero_iff,-Int.natCast_eq_zero,wrap64,c_r01_In]
    refine cnd_bool (fun h6 => ?_) (fun h6 => ?_)
    ·simp +contextual (disch:=omega) [-getElem?_pos,-List.length_eq_zero_iff,-Int.natCast_eq_zero,wrap64,h6,c_r01_In]
     simp [-List.length_eq_zero_iff,-Int.natCast_eq_zero] at h6
     rw [if_pos (by omega)] at hW
     exact hW
    ·simp +contextual (disch:=omega) [-getElem?_pos,-List.length_eq_zero_iff,-Int.natCast_eq_zero,wrap64,h6,c_r01_In]
     simp [-List.length_eq_zero_iff,-Int.natCast_eq_zero] at h6
     refine cnd_bool (fun h7 => ?_) (fun h7 => ?_)
     ·simp [-List.length_eq_zero_iff,-Int.natCast_eq_zero] at h7
      rw [if_pos (by omega)] at hW
      exact hW
     ·simp [-List.length_eq_zero_iff,-Int.natCast_eq_zero] at h7
      rw [if_neg (by omega)] at hW
      exact hW
  ·rw [if_pos (by simpa using hc)] at hW
   simp +contextual (disch:=omega) [-getElem?_pos,-List.length_eq_zero_iff,-Int.natCast_eq_zero,wrap64,v_r18_Check,c_r02_Check,hc]
   exact hW)
end Go.Proofs.YtfjdfnegookkcaaGreat
namespace Go.Proofs.YtfjdfnegookkcaaGreat
set_option linter.all false
open Go.Vm
attribute [local simp] cond_yes cond_yes2 int_beq int_bne
structure Uv (u:Un):Prop where
 cv:Cv u.table
 top:(nth u.table (u.table.length - 1)).y ≤ 1073741824
 least:1 ≤ u.least
 most:u.least ≤ u.most
 most':u.most ≤ 1073741824
 few:u.rough.length ≤ 10
 zone:∀ i,i < u.rough.length → (0 ≤ (nth u.rough i).lo ∧ (nth u.rough i).hi ≤ 1073741824) ∧ (nth u.rough i).lo < (nth u.rough i).hi
 up:0 ≤ u.up ∧ u.up ≤ 1000
 down:0 ≤ u.down ∧ u.down ≤ 1000
 chk:cChk u.table = 0
theorem uv_of {u:Un} (h:uChk u = 0):Uv u:=by
 unfold uChk at h
 split at h
 ·contradiction
 ·split at h
  ·cases h
  ·split at h
   ·cases h
   ·split at h
    ·cases h
    ·split at h
     ·contradiction
     ·split at h
      ·cases h
      ·rename_i h1 h2 h3 h4 h5 h6
       have h1:cChk u.table = 0:=Decidable.of_not_not h1
       have h5:fsE (zAt u.rough) u.rough.length 0 = 0:=Decidable.of_not_not h5
       refine ⟨cv_of h1,by omega,by omega,by omega,by omega,by omega,fun i hi => ?_,by omega,by omega,h1⟩
       have h7:=fsE_all h5 i (by omega) (by omega)
       unfold zAt at h7
       split at h7
       ·cases h7
       ·split at h7
        ·cases h7
        ·omega
def ins (u:Un) (q:Int):Prop:=∃ i,i < u.rough.length ∧ (nth u.rough i).lo < q ∧ q < (nth u.rough i).hi
theorem c_beyond {u:Un} (hu:Uv u) (q:Int) (G:List GObj) :
  ∃ r,Lim F 130 [un u,i64 q] G = some (i64 r,G) ∧ q ≤ r ∧ ¬ins u r ∧ (∀ t,q ≤ t → t < r → ins u t) ∧ (r = q ∨ r ≤ 1073741824):=by
 suffices h:Ret (Lim F) 130 [un u,i64 q] G fun v G' => G' = G ∧ ∃ r,v = i64 r ∧ q ≤ r ∧ ¬ins u r ∧ (∀ t,q ≤ t → t < r → ins u t) ∧ (r = q ∨ r ≤ 1073741824) by
  obtain ⟨_,_,h,rfl,r,rfl,h2⟩:=h
  exact ⟨r,h,h2⟩
 refine ret_of rfl rfl ?_
 have hz:=hu.zone
 have hf:=hu.few
 simp +contextual (disch:=omega) [-getElem?_pos,-List.length_eq_zero_iff,-Int.natCast_eq_zero,wrap64,v_unit_beyond]
 refine go_loop (fun r:Int => v_unit_beyond_s1 r u.row G) (fun r => q ≤ r ∧ (∀ t,q ≤ t → t < r → ins u t) ∧ (r = q ∨ r ≤ 1073741824)) (fun r => (1073741824 - r).toNat) q rfl (by simp) ⟨by omega,by omega,.inl rfl⟩ ?_
 rintro r ⟨h1,h2,h3⟩
 simp +contextual (disch:=omega) [-getElem?_pos,-List.length_eq_zero_iff,-Int.natCast_eq_zero,wrap64,v_unit_beyond_b1]
 refine go_loop (fun i:Nat => v_unit_beyond_s0 r (bds u.rough) u.rough.length i u.row G) (fun i => i ≤ u.rough.length ∧ ∀ j,j < i → ¬((nth u.rough j).lo < r ∧ r < (nth u.rough j).hi)) (fun i => u.rough.length - i) 0 rfl (by simp) ⟨by omega,by omega⟩ ?_
 rintro i ⟨hi,hn⟩
 simp +contextual (disch:=omega) [-getElem?_pos,-List.length_eq_zero_iff,-Int.natCast_eq_zero,wrap64,v_unit_beyond_b0]
 refine cnd_dec (fun h4 => ?_) (fun h4 => ?_)
 ·have h4:i < u.rough.length:=by omega
  have h5:=hz i h4
  simp +contextual (disch:=omega) [-getElem?_pos,-List.length_eq_zero_iff,-Int.natCast_eq_zero,wrap64,get_nth (l:=u.rough)]
  refine cnd_bool (fun h6 => ?_) (fun h6 => ?_)
  ·simp [-List.length_eq_zero_iff,-Int.natCast_eq_zero] at h6
   refine rnd_next (nth u.rough i).hi (by simp) ⟨by omega,fun t ha hb => ?_,by omega⟩ (by omega)
   by_cases h7:t < r
   ·exact h2 t ha h7
   ·exact ⟨i,h4,by omega,hb⟩
  ·simp [-List.length_eq_zero_iff,-Int.natCast_eq_zero] at h6
   refine rnd_next (i + 1) (by simp) ⟨by omega,fun j hj => ?_⟩ (by omega)
   rcases Nat.lt_or_ge j i with h7 | h7
   ·have:=hn j h7;omega
   ·obtain rfl:j = i:=by omega
    omega
 ·obtain rfl:i = u.rough.length:=by omega
  exact ⟨h1,fun ⟨j,hj,h5,h6⟩ => hn j hj ⟨h5,h6⟩,h2,h3⟩
theorem c_inside {u:Un} (hu:Uv u) (q:Int) (G:List GObj) :
  (∃ e,Lim F 103 [un u,i64 q] G = some (.tuple [i64 e,.bool true],G) ∧ ins u q ∧ q < e ∧ e ≤ 1073741824 ∧ ∀ t,q ≤ t → t < e → ins u t) ∨
  (Lim F 103 [un u,i64 q] G = some (.tuple [i64 0,.bool false],G) ∧ ¬ins u q):=by
 suffices h:Ret (Lim F) 103 [un u,i64 q] G fun v G' => G' = G ∧ ((∃ e,v = .tuple [i64 e,.bool true] ∧ ins u q ∧ q < e ∧ e ≤ 1073741824 ∧ ∀ t,q ≤ t → t < e → ins u t) ∨ v = .tuple [i64 0,.bool false] ∧ ¬ins u q) by
  obtain ⟨_,_,h,rfl,⟨e,rfl,h2⟩ | ⟨rfl,h2⟩⟩:=h
  ·exact .inl ⟨e,h,h2⟩
  ·exact .inr ⟨h,h2⟩
 refine ret_of rfl rfl ?_
 have hz:=hu.zone
 have hf:=hu.few
 simp +contextual (disch:=omega) [-getElem?_pos,-List.length_eq_zero_iff,-Int.natCast_eq_zero,wrap64,v_r18_inside]
 refine go_loop (fun i:Nat => v_r18_inside_s0 q (bds u.rough) u.rough.length i G) (fun i => i ≤ u.rough.length ∧ ∀ j,j < i → ¬((nth u.rough j).lo < q ∧ q < (nth u.rough j).hi)) (fun i => u.rough.length - i) 0 rfl (by simp) ⟨by omega,by omega⟩ ?_
 rintro i ⟨hi,hn⟩
 simp +contextual (disch:=omega) [-getElem?_pos,-List.length_eq_zero_iff,-Int.natCast_eq_zero,wrap64,v_r18_inside_b0]
 refine cnd_dec (fun h4 => ?_) (fun h4 => ?_)
 ·have h4:i < u.rough.length:=by omega
  have h5:=hz i h4
  simp +contextual (disch:=omega) [-getElem?_pos,-List.length_eq_zero_iff,-Int.natCast_eq_zero,wrap64,get_nth (l:=u.rough)]
  refine cnd_bool (fun h6 => ?_) (fun h6 => ?_)
  ·simp [-List.length_eq_zero_iff,-Int.natCast_eq_zero] at h6
   exact ⟨⟨i,h4,by omega,by omega⟩,by omega,by omega,fun t ha hb => ⟨i,h4,by omega,hb⟩⟩
  ·simp [-List.length_eq_zero_iff,-Int.natCast_eq_zero] at h6
   refine rnd_next (i + 1) (by simp) ⟨by omega,fun j hj => ?_⟩ (by omega)
   rcases Nat.lt_or_ge j i with h7 | h7
   ·have:=hn j h7;omega
   ·obtain rfl:j = i:=by omega
    omega
 ·obtain rfl:i = u.rough.length:=by omega
  rintro ⟨j,hj,h5,h6⟩
  exact hn j hj ⟨h5,h6⟩
end Go.Proofs.YtfjdfnegookkcaaGreat
namespace Go.Proofs.YtfjdfnegookkcaaGreat
set_option linter.all false
open Go.Vm
attribute [local simp] cond_yes cond_yes2 int_beq int_bne
structure Us where
 flow:Int
 since:Int
 out:Bool
 deriving Inhabited,DecidableEq
abbrev Us.row (s:Us):List V:=[i64 s.flow,i64 s.since,.bool s.out]
abbrev us (s:Us):V:=.agg s.row
def runsP (u:Un) (q:Int):Prop:=u.least ≤ q ∧ q ≤ u.most ∧ ¬ins u q
noncomputable instance decRuns {u:Un} {q:Int}:Decidable (runsP u q):=Classical.propDecidable _
noncomputable instance decIns {u:Un} {q:Int}:Decidable (ins u q):=Classical.propDecidable _
theorem c_unit_runs {u:Un} (hu:Uv u) (q:Int) (G:List GObj):Lim F 121 [un u,i64 q] G = some (.bool (decide (runsP u q)),G) :=
 eq_of rfl rfl (by
  obtain ⟨r,h1,h2,h3,h4,_⟩:=c_beyond hu q []
  have key:decide (runsP u q) = (decide (u.least ≤ q) && decide (q ≤ u.most) && decide (r = q)):=by
   rw [Bool.eq_iff_iff]
   simp only [decide_eq_true_eq,Bool.and_eq_true]
   constructor
   ·rintro ⟨a,b,d⟩
    refine ⟨⟨a,b⟩,Decidable.byContradiction fun hne => d (h4 q (by omega) (by omega))⟩
   ·rintro ⟨⟨a,b⟩,rfl⟩
    exact ⟨a,b,h3⟩
  rw [key]
  simp +contextual (disch:=omega) [-getElem?_pos,-List.length_eq_zero_iff,-Int.natCast_eq_zero,wrap64,v_unit_runs,h1]
  refine cnd_bool (fun h5 => ?_) (fun h5 => ?_)
  ·simp +contextual (disch:=omega) [-getElem?_pos,-List.length_eq_zero_iff,-Int.natCast_eq_zero,wrap64,h5,h1]
  ·simp +contextual (disch:=omega) [-getElem?_pos,-List.length_eq_zero_iff,-Int.natCast_eq_zero,wrap64,h5,h1])
theorem ins_false {u:Un} {q:Int} (h:¬ins u q):decide (ins u q) = false:=decide_eq_false h
theorem c_r18_Runs (u:Un) (q:Int) (G:List GObj):Lim F 78 [un u,i64 q] G = some (.bool (decide (uChk u = 0 ∧ runsP u q)),G) :=
 eq_of rfl rfl (by
  generalize hW:decide (uChk u = 0 ∧ runsP u q) = W
  by_cases hc:uChk u = 0
  ·simp +contextual (disch:=omega) [-getElem?_pos,-List.length_eq_zero_iff,-Int.natCast_eq_zero,wrap64,v_r18_Runs,c_r18_Check,hc]
   refine cnd_bool (fun h1 => ?_) (fun h1 => ?_)
   ·simp [-List.length_eq_zero_iff,-Int.natCast_eq_zero] at h1
    rw [← hW,decide_eq_false (fun h => by have:=h.2.1;have:=h.2.2.1;omega)]
   ·simp [-List.length_eq_zero_iff,-Int.natCast_eq_zero] at h1
    rcases c_inside (uv_of hc) q [] with ⟨e,h2,h3,_⟩ | ⟨h2,h3⟩
    ·simp +contextual (disch:=omega) [-getElem?_pos,-List.length_eq_zero_iff,-Int.natCast_eq_zero,wrap64,h2]
     rw [← hW,decide_eq_false (fun h => h.2.2.2 h3)]
    ·simp +contextual (disch:=omega) [-getElem?_pos,-List.length_eq_zero_iff,-Int.natCast_eq_zero,wrap64,h2]
     rw [← hW,decide_eq_true ⟨hc,by omega,by omega,h3⟩]
  ·simp +contextual (disch:=omega) [-getElem?_pos,-List.length_eq_zero_iff,-Int.natCast_eq_zero,wrap64,v_r18_Runs,c_r18_Check,hc]
   rw [← hW,decide_eq_false (fun h => hc h.1)])
def validP (u:Un) (s:Us):Prop:=uChk u = 0 ∧ (0 ≤ s.since ∧ s.since ≤ 1000) ∧ (s.flow = 0 ∨ s.out = false ∧ runsP u s.flow)
def mayP (u:Un) (s:Us) (q:Int):Prop:=if q = 0 then (0 < s.flow → u.up ≤ s.since) else s.out = false ∧ ¬(s.flow = 0 ∧ s.since < u.down) ∧ runsP u q
noncomputable instance decValid {u:Un} {s:Us}:Decidable (validP u s):=Classical.propDecidable _
noncomputable instance decMay {u:Un} {s:Us} {q:Int}:Decidable (mayP u s q):=Classical.propDecidable _
theorem c_unit_fits {u:Un} (hc:uChk u = 0) (s:Us) (G:List GObj):Lim F 111 [un u,us s] G = some (.bool (decide (validP u s)),G) :=
 eq_of rfl rfl (by
  obtain ⟨flow,since,out⟩:=s
  generalize hW:decide (validP u ⟨flow,since,out⟩) = W
  have e:validP u ⟨flow,since,out⟩ ↔ (0 ≤ since ∧ since ≤ 1000) ∧ (flow = 0 ∨ out = false ∧ runsP u flow):=by simp [validP,hc]
  by_cases h1:0 ≤ since ∧ since ≤ 1000
  ·by_cases h2:flow = 0
   ·simp +contextual (disch:=omega) [-getElem?_pos,-List.length_eq_zero_iff,-Int.natCast_eq_zero,wrap64,v_unit_fits,c_quantity_Within,c_unit_runs (uv_of hc),h1.1,h1.2,h2]
    rw [← hW,decide_eq_true (e.2 ⟨h1,.inl h2⟩)]
   ·cases out with
    | true =>
      simp +contextual (disch:=omega) [-getElem?_pos,-List.length_eq_zero_iff,-Int.natCast_eq_zero,wrap64,v_unit_fits,c_quantity_Within,c_unit_runs (uv_of hc),h1.1,h1.2,h2]
      rw [← hW,decide_eq_false (fun h => by have:=(e.1 h).2;simp [h2] at this)]
    | false =>
      simp +contextual (disch:=omega) [-getElem?_pos,-List.length_eq_zero_iff,-Int.natCast_eq_zero,wrap64,v_unit_fits,c_quantity_Within,c_unit_runs (uv_of hc),h1.1,h1.2,h2]
      rw [← hW]
      simp [e,h1,h2]
  ·have h3:(decide (0 ≤ since) && decide (since ≤ 1000)) = false:=by simp;omega
   simp +contextual (disch:=omega) [-getElem?_pos,-List.length_eq_zero_iff,-Int.natCast_eq_zero,wrap64,v_unit_fits,c_quantity_Within,c_unit_runs (uv_of hc),h3]
   rw [← hW,decide_eq_false (fun h => h1 (e.1 h).1)])
theorem c_unit_Valid (u:Un) (s:Us) (G:List GObj):Lim F 93 [un u,us s] G = some (.bool (decide (validP u s)),G) :=
 eq_of rfl rfl (by
  generalize hW:decide (validP u s) = W
  by_cases hc:uChk u = 0
  ·simp +contextual (disch:=omega) [-getElem?_pos,-List.length_eq_zero_iff,-Int.natCast_eq_zero,wrap64,v_unit_Valid,c_unit_Check,hc,c_unit_fits hc]
   exact hW
  ·simp +contextual (disch:=omega) [-getElem?_pos,-List.length_eq_zero_iff,-Int.natCast_eq_zero,wrap64,v_unit_Valid,c_unit_Check,hc]
   rw [← hW,decide_eq_false (fun h => hc h.1)])
theorem c_r18_Valid (u:Un) (s:Us) (G:List GObj):Lim F 44 [un u,us s] G = some (.bool (decide (validP u s)),G) :=
 eq_of rfl rfl (by
  obtain ⟨flow,since,out⟩:=s
  generalize hW:decide (validP u ⟨flow,since,out⟩) = W
  by_cases hc:uChk u = 0
  ·have e:validP u ⟨flow,since,out⟩ ↔ (0 ≤ since ∧ since ≤ 1000) ∧ (flow = 0 ∨ out = false ∧ runsP u flow):=by simp [validP,hc]
   by_cases h1:0 ≤ since ∧ since ≤ 1000
   ·by_cases h2:flow = 0
    ·simp +contextual (disch:=omega) [-getElem?_pos,-List.length_eq_zero_iff,-Int.natCast_eq_zero,wrap64,v_r18_Valid,c_r18_Check,c_r01_In,c_r18_Runs,hc,h1.1,h1.2,h2]
     rw [← hW,decide_eq_true (e.2 ⟨h1,.inl h2⟩)]
    ·by_cases h3:runsP u flow
     ·simp +contextual (disch:=omega) [-getElem?_pos,-List.length_eq_zero_iff,-Int.natCast_eq_zero,wrap64,v_r18_Valid,c_r18_Check,c_r01_In,c_r18_Runs,hc,h1.1,h1.2,h2,h3]
      rw [← hW]
      simp [e,h1,h2,h3]
     ·simp +contextual (disch:=omega) [-getElem?_pos,-List.length_eq_zero_iff,-Int.natCast_eq_zero,wrap64,v_r18_Valid,c_r18_Check,c_r01_In,c_r18_Runs,hc,h1.1,h1.2,h2,h3]
      rw [← hW]
      simp [e,h1,h2,h3]
   ·have h3:(decide (0 ≤ since) && decide (since ≤ 1000)) = false:=by simp;omega
    simp +contextual (disch:=omega) [-getElem?_pos,-List.length_eq_zero_iff,-Int.natCast_eq_zero,wrap64,v_r18_Valid,c_r18_Check,c_r01_In,c_r18_Runs,hc,h3]
    rw [← hW,decide_eq_false (fun h => h1 (e.1 h).1)]
  ·simp +contextual (disch:=omega) [-getElem?_pos,-List.length_eq_zero_iff,-Int.natCast_eq_zero,wrap64,v_r18_Valid,c_r18_Check,hc]
   rw [← hW,decide_eq_false (fun h => hc h.1)])
theorem runs_pos {u:Un} (hc:uChk u = 0) {q:Int} (h:runsP u q):1 ≤ q:=by have:=(uv_of hc).least;have:=h.1;omega
theorem c_unit_may {u:Un} {s:Us} (hv:validP u s) (q:Int) (G:List GObj):Lim F 120 [un u,us s,i64 q] G = some (.bool (decide (mayP u s q)),G) :=
 eq_of rfl rfl (by
  obtain ⟨hc,h1,h2⟩:=hv
  obtain ⟨flow,since,out⟩:=s
  simp only at h1 h2
  generalize hW:decide (mayP u ⟨flow,since,out⟩ q) = W
  simp only [mayP] at hW
  by_cases h3:q = 0
  ·subst h3
   by_cases h4:0 < flow
   ·simp +contextual (disch:=omega) [-getElem?_pos,-List.length_eq_zero_iff,-Int.natCast_eq_zero,wrap64,v_unit_may,h4]
    rw [← hW];simp [h4]
   ·simp +contextual (disch:=omega) [-getElem?_pos,-List.length_eq_zero_iff,-Int.natCast_eq_zero,wrap64,v_unit_may,h4]
    rw [← hW];simp [h4]
  ·simp only [h3,if_false] at hW
   cases out with
   | true =>
     simp +contextual (disch:=omega) [-getElem?_pos,-List.length_eq_zero_iff,-Int.natCast_eq_zero,wrap64,v_unit_may,h3]
     rw [← hW];simp
   | false =>
     by_cases h5:flow = 0
     ·by_cases h6:since < u.down
      ·simp +contextual (disch:=omega) [-getElem?_pos,-List.length_eq_zero_iff,-Int.natCast_eq_zero,wrap64,v_unit_may,h3,h5,h6]
       rw [← hW];simp [h5];omega
      ·simp +contextual (disch:=omega) [-getElem?_pos,-List.length_eq_zero_iff,-Int.natCast_eq_zero,wrap64,v_unit_may,h3,h5,h6,c_unit_runs (uv_of hc)]
       rw [← hW];simp [h5];omega
     ·simp +contextual (disch:=omega) [-getElem?_pos,-List.length_eq_zero_iff,-Int.natCast_eq_zero,wrap64,v_unit_may,h3,h5,c_unit_runs (uv_of hc)]
      rw [← hW];simp [h5])
theorem c_unit_May (u:Un) (s:Us) (q:Int) (G:List GObj):Lim F 125 [un u,us s,i64 q] G = some (.bool (decide (validP u s ∧ mayP u s q)),G) :=
 eq_of rfl rfl (by
  generalize hW:decide (validP u s ∧ mayP u s q) = W
  by_cases hv:validP u s
  ·simp +contextual (disch:=omega) [-getElem?_pos,-List.length_eq_zero_iff,-Int.natCast_eq_zero,wrap64,v_unit_May,c_unit_Valid,hv,c_unit_may hv]
   rw [← hW];simp [hv]
  ·simp +contextual (disch:=omega) [-getElem?_pos,-List.length_eq_zero_iff,-Int.natCast_eq_zero,wrap64,v_unit_May,c_unit_Valid,hv]
   rw [← hW];simp [hv])
theorem c_r18_May (u:Un) (s:Us) (q:Int) (G:List GObj):Lim F 114 [un u,us s,i64 q] G = some (.bool (decide (validP u s ∧ mayP u s q)),G) :=
 eq_of rfl rfl (by
  generalize hW:decide (validP u s ∧ mayP u s q) = W
  have hV:=c_r18_Valid u s []
  by_cases hv:validP u s
  ·obtain ⟨hc,h1,h2⟩:=id hv
   obtain ⟨flow,since,out⟩:=s
   simp only [hv,decide_true] at hV
   simp only at h1 h2
   simp only [mayP] at hW
   have hf:flow = 0 ∨ 0 < flow:=by
    rcases h2 with h | ⟨_,h⟩
    ·exact .inl h
    ·have:=runs_pos hc h;omega
   by_cases h3:q = 0
   ·subst h3
    by_cases h4:0 < flow
    ·simp +contextual (disch:=omega) [-getElem?_pos,-List.length_eq_zero_iff,-Int.natCast_eq_zero,wrap64,v_r18_May,hV,h4]
     rw [← hW];simp [h4,hv]
    ·simp +contextual (disch:=omega) [-getElem?_pos,-List.length_eq_zero_iff,-Int.natCast_eq_zero,wrap64,v_r18_May,hV,h4]
     rw [← hW];simp [h4,hv]
   ·simp only [h3,if_false] at hW
    cases out with
    | true =>
      simp +contextual (disch:=omega) [-getElem?_pos,-List.length_eq_zero_iff,-Int.natCast_eq_zero,wrap64,v_r18_May,hV,h3]
      rw [← hW];simp
    | false =>
      by_cases h5:runsP u q
      ·have h6:=runs_pos hc h5
       have h8:0 < q:=by omega
       rcases hf with h7 | h7
       ·subst h7
        simp +contextual (disch:=omega) [-getElem?_pos,-List.length_eq_zero_iff,-Int.natCast_eq_zero,wrap64,v_r18_May,hV,h3,c_r18_Runs,hc,h5,h8]
        rw [← hW];simp [hv,h5]
       ·have h9:¬flow = 0:=by omega
        simp +contextual (disch:=omega) [-getElem?_pos,-List.length_eq_zero_iff,-Int.natCast_eq_zero,wrap64,v_r18_May,hV,h3,c_r18_Runs,hc,h5,h8,h7,h9]
        rw [← hW];simp [hv,h5,h9]
      ·simp +contextual (disch:=omega) [-getElem?_pos,-List.length_eq_zero_iff,-Int.natCast_eq_zero,wrap64,v_r18_May,hV,h3,c_r18_Runs,hc,h5]
       rw [← hW];simp [h5]
  ·simp +contextual (disch:=omega) [-getElem?_pos,-List.length_eq_zero_iff,-Int.natCast_eq_zero,wrap64,v_r18_May,hV,hv]
   rw [← hW];simp [hv])
noncomputable def powE (u:Un) (q:Int):Int:=if uChk u ≠ 0 then uChk u else if q = 0 ∨ runsP u q then 0 else 1
noncomputable def pow (u:Un) (q:Int):Int:=if uChk u = 0 ∧ q ≠ 0 ∧ runsP u q then cval u.table q else 0
theorem c_unit_Power (u:Un) (q:Int) (G:List GObj):Lim F 102 [un u,i64 q] G = some (.tuple [i64 (pow u q),i64 (powE u q)],G) :=
 eq_of rfl rfl (by
  by_cases hc:uChk u = 0
  ·by_cases h1:q = 0
   ·simp +contextual (disch:=omega) [-getElem?_pos,-List.length_eq_zero_iff,-Int.natCast_eq_zero,wrap64,v_unit_Power,c_unit_Check,hc,h1]
    simp [pow,powE,hc]
   ·by_cases h2:runsP u q
    ·simp +contextual (disch:=omega) [-getElem?_pos,-List.length_eq_zero_iff,-Int.natCast_eq_zero,wrap64,v_unit_Power,c_unit_Check,hc,h1,c_unit_runs (uv_of hc),h2,c_curve_Value (uv_of hc).cv]
     simp [pow,powE,hc,h1,h2]
    ·simp +contextual (disch:=omega) [-getElem?_pos,-List.length_eq_zero_iff,-Int.natCast_eq_zero,wrap64,v_unit_Power,c_unit_Check,hc,h1,c_unit_runs (uv_of hc),h2]
     simp [pow,powE,hc,h1,h2]
  ·simp +contextual (disch:=omega) [-getElem?_pos,-List.length_eq_zero_iff,-Int.natCast_eq_zero,wrap64,v_unit_Power,c_unit_Check,hc]
   simp [pow,powE,hc])
theorem c_r18_Power (u:Un) (q:Int) (G:List GObj):Lim F 113 [un u,i64 q] G = some (.tuple [i64 (pow u q),i64 (powE u q)],G) :=
 eq_of rfl rfl (by
  by_cases hc:uChk u = 0
  ·by_cases h1:q = 0
   ·simp +contextual (disch:=omega) [-getElem?_pos,-List.length_eq_zero_iff,-Int.natCast_eq_zero,wrap64,v_r18_Power,c_r18_Check,hc,h1]
    simp [pow,powE,hc]
   ·by_cases h2:runsP u q
    ·simp +contextual (disch:=omega) [-getElem?_pos,-List.length_eq_zero_iff,-Int.natCast_eq_zero,wrap64,v_r18_Power,c_r18_Check,hc,h1,c_r18_Runs,h2,c_r02_At,(uv_of hc).chk]
     simp [pow,powE,hc,h1,h2]
    ·simp +contextual (disch:=omega) [-getElem?_pos,-List.length_eq_zero_iff,-Int.natCast_eq_zero,wrap64,v_r18_Power,c_r18_Check,hc,h1,c_r18_Runs,h2]
     simp [pow,powE,hc,h1,h2]
  ·simp +contextual (disch:=omega) [-getElem?_pos,-List.length_eq_zero_iff,-Int.natCast_eq_zero,wrap64,v_r18_Power,c_r18_Check,hc]
   simp [pow,powE,hc])
noncomputable def nextE (u:Un) (s:Us) (q:Int):Int:=if uChk u ≠ 0 then uChk u else if ¬validP u s then 3 else if ¬mayP u s q then 15 else 0
def nextS (s:Us) (q:Int):Us:=⟨q,if decide (0 < s.flow) = decide (0 < q) then min 1000 (s.since + 1) else 1,s.out⟩
theorem c_r18_Next (u:Un) (s:Us) (q:Int) (G:List GObj):Lim F 96 [un u,us s,i64 q] G =
  some (.tuple (if nextE u s q = 0 then [us (nextS s q),.bool (decide (s.flow = 0) && decide (0 < q)),i64 0] else [us ⟨0,0,false⟩,.bool false,i64 (nextE u s q)]),G) :=
 eq_of rfl rfl (by
  by_cases hc:uChk u = 0
  ·by_cases hv:validP u s
   ·by_cases hm:mayP u s q
    ·have h1:=hv.2.1
     simp +contextual (disch:=omega) [-getElem?_pos,-List.length_eq_zero_iff,-Int.natCast_eq_zero,wrap64,v_r18_Next,c_r18_Check,c_r18_Valid,c_r18_May,hc,hv,hm]
     have e:nextE u s q = 0:=by simp [nextE,hc,hv,hm]
     refine cnd_bool (fun h => ?_) (fun h => ?_)
     ·simp at h
      simp [e,nextS,h]
     ·simp at h
      simp [e,nextS,h]
    ·simp +contextual (disch:=omega) [-getElem?_pos,-List.length_eq_zero_iff,-Int.natCast_eq_zero,wrap64,v_r18_Next,c_r18_Check,c_r18_Valid,c_r18_May,hc,hv,hm]
     simp [nextE,hc,hv,hm]
   ·simp +contextual (disch:=omega) [-getElem?_pos,-List.length_eq_zero_iff,-Int.natCast_eq_zero,wrap64,v_r18_Next,c_r18_Check,c_r18_Valid,hc,hv]
    simp [nextE,hc,hv]
  ·simp +contextual (disch:=omega) [-getElem?_pos,-List.length_eq_zero_iff,-Int.natCast_eq_zero,wrap64,v_r18_Next,c_r18_Check,hc]
   simp [nextE,hc])
end Go.Proofs.YtfjdfnegookkcaaGreat
namespace Go.Proofs.YtfjdfnegookkcaaGreat
set_option linter.all false
open Go.Vm
attribute [local simp] cond_yes cond_yes2 int_beq int_bne
noncomputable def goods (u:Un) (g:Int):List Int:=((List.range ((u.most / g).toNat + 1)).map fun k:Nat => (k:Int) * g).filter fun q => decide (runsP u q)
noncomputable def below (u:Un) (g t:Int):List Int:=(goods u g).filter fun q => decide (q < t)
theorem mem_goods {u:Un} (hu:Uv u) {g:Int} (hg:1 ≤ g) {q:Int}:q ∈ goods u g ↔ runsP u q ∧ ∃ k:Nat,q = k * g:=by
 simp only [goods,List.mem_filter,List.mem_map,List.mem_range,decide_eq_true_eq]
 constructor
 ·rintro ⟨⟨k,_,rfl⟩,h⟩
  exact ⟨h,k,rfl⟩
 ·rintro ⟨h,k,rfl⟩
  refine ⟨⟨k,?_,rfl⟩,h⟩
  have h1:=h.2.1
  have:(k:Int) ≤ u.most / g:=(Int.le_ediv_iff_mul_le (by omega)).2 h1
  omega
theorem goods_up {u:Un} {g:Int} (hg:1 ≤ g):(goods u g).Pairwise (· < ·):=by
 refine List.Pairwise.filter _ ?_
 rw [List.pairwise_map]
 refine List.Pairwise.imp ?_ (List.pairwise_lt_range)
 intro a b hab
 exact Int.mul_lt_mul_of_pos_right (by omega) (by omega)
theorem filter_snoc {q:Int}:∀ {l:List Int},l.Pairwise (· < ·) → q ∈ l → l.filter (fun x => decide (x < q + 1)) = l.filter (fun x => decide (x < q)) ++ [q]
 | [],_,h => by simp at h
 | a :: l,hp,h => by
   obtain ⟨h1,h2⟩:=List.pairwise_cons.1 hp
   rcases List.mem_cons.1 h with rfl | h3
   ·have e:∀ t,t ≤ q + 1 → l.filter (fun x => decide (x < t)) = []:=fun t ht => by
     rw [List.filter_eq_nil_iff]
     intro b hb
     have:=h1 b hb
     simp;omega
    have h3:q < q + 1:=by omega
    have h4:¬ q < q:=by omega
    simp [h3,e (q + 1) (by omega),e q (by omega)]
   ·have:=h1 q h3
    have h4:a < q:=this
    have h5:a < q + 1:=by omega
    simp [h4,h5,filter_snoc h2 h3]
theorem below_snoc {u:Un} {g q:Int} (hg:1 ≤ g) (h:q ∈ goods u g):below u g (q + 1) = below u g q ++ [q]:=filter_snoc (goods_up hg) h
theorem below_same {u:Un} {g t t':Int} (h:∀ q ∈ goods u g,t ≤ q → q < t' → False) (hle:t ≤ t'):below u g t = below u g t':=by
 refine List.filter_congr fun q hq => ?_
 have:=h q hq
 by_cases h1:q < t
 ·have:q < t':=by omega
  simp [h1,this]
 ·have h2:¬ q < t':=fun h2 => this (by omega) h2
  simp [h1,h2]
theorem below_all {u:Un} {g t:Int} (h:∀ q ∈ goods u g,q < t):below u g t = goods u g:=by
 refine List.filter_eq_self.2 fun q hq => ?_
 simp [h q hq]
theorem below_none {u:Un} {g t:Int} (h:t ≤ u.least):below u g t = []:=by
 refine List.filter_eq_nil_iff.2 fun q hq => ?_
 simp only [goods,List.mem_filter,decide_eq_true_eq] at hq
 have:=hq.2.1
 simp;omega
theorem below_lt {u:Un} {g q:Int} (hg:1 ≤ g) (h:q ∈ goods u g):(below u g q).length < (goods u g).length:=by
 have h1:=below_snoc hg h
 have h2:(below u g (q + 1)).length ≤ (goods u g).length:=List.length_filter_le _ _
 rw [h1] at h2
 simp at h2
 omega
def rup (q g:Int):Int:=(q + g - 1).tdiv g * g
theorem rup_spec {q g:Int} (hq:0 ≤ q) (hg:1 ≤ g):q ≤ rup q g ∧ rup q g ≤ q + g - 1 ∧ (∃ k:Nat,rup q g = k * g) ∧ ∀ k:Nat,q ≤ k * g → rup q g ≤ k * g:=by
 unfold rup
 rw [Int.tdiv_eq_ediv_of_nonneg (by omega)]
 have h1:=Int.ediv_mul_le (q + g - 1) (b:=g) (by omega)
 have h2:=Int.lt_ediv_add_one_mul_self (q + g - 1) (b:=g) (by omega)
 have h3:0 ≤ (q + g - 1) / g:=Int.ediv_nonneg (by omega) (by omega)
 rw [Int.add_mul,Int.one_mul] at h2
 refine ⟨by omega,h1,⟨((q + g - 1) / g).toNat,by rw [Int.toNat_of_nonneg h3]⟩,fun k hk => ?_⟩
 refine Int.mul_le_mul_of_nonneg_right ?_ (by omega)
 refine Int.not_lt.1 fun h4 => ?_
 have h5:((k:Int) + 1) * g ≤ (q + g - 1) / g * g:=Int.mul_le_mul_of_nonneg_right (by omega) (by omega)
 rw [Int.add_mul,Int.one_mul] at h5
 omega
theorem below_rup {u:Un} (hu:Uv u) {g q:Int} (hq:0 ≤ q) (hg:1 ≤ g):below u g q = below u g (rup q g):=by
 obtain ⟨h1,_,_,h4⟩:=rup_spec hq hg
 refine below_same (fun x hx a b => ?_) h1
 obtain ⟨_,k,rfl⟩:=(mem_goods hu hg).1 hx
 have:=h4 k a
 omega
theorem below_ins {u:Un} (hu:Uv u) {g q r:Int} (hg:1 ≤ g) (h:∀ t,q ≤ t → t < r → ins u t) (hle:q ≤ r):below u g q = below u g r :=
 below_same (fun x hx a b => ((mem_goods hu hg).1 hx).1.2.2 (h x a b)) hle
theorem below_next {u:Un} (hu:Uv u) {g q:Int} (hg:1 ≤ g) (hq:∃ k:Nat,q = k * g):below u g (q + 1) = below u g (q + g):=by
 refine below_same (fun x hx a b => ?_) (by omega)
 obtain ⟨_,k,rfl⟩:=(mem_goods hu hg).1 hx
 obtain ⟨m,rfl⟩:=hq
 have h1:(m:Int) < k:=by
  refine Int.not_le.1 fun h => ?_
  have:=Int.mul_le_mul_of_nonneg_right h (show 0 ≤ g by omega)
  omega
 have h2:((m:Int) + 1) * g ≤ k * g:=Int.mul_le_mul_of_nonneg_right (by omega) (by omega)
 rw [Int.add_mul,Int.one_mul] at h2
 omega
noncomputable def flE (u:Un) (g:Int):Int:=if uChk u ≠ 0 then uChk u else if g < 1 ∨ 1073741824 < g then 1 else if 200 < (goods u g).length then 10 else 0
noncomputable def fls (u:Un) (g:Int):List Int:=if flE u g = 0 then goods u g else []
abbrev own (l:List Int):V:=.slice (some 0) 1 (l.map fun n => [i64 n])
theorem c_unit_Flows (u:Un) (g:Int) (G:List GObj):Lim F 122 [un u,i64 g] G = some (.tuple [own (fls u g),i64 (flE u g)],G) :=
 eq_of rfl rfl (by
  by_cases hc:uChk u = 0
  ·simp +contextual (disch:=omega) [-getElem?_pos,-List.length_eq_zero_iff,-Int.natCast_eq_zero,wrap64,v_unit_Flows,c_unit_Check,hc]
   refine cnd_bool (fun h1 => ?_) (fun h1 => ?_)
   ·simp [-List.length_eq_zero_iff,-Int.natCast_eq_zero] at h1
    have e:flE u g = 1:=by simp [flE,hc,h1]
    simp [fls,e]
   ·simp [-List.length_eq_zero_iff,-Int.natCast_eq_zero] at h1
    have hu:=uv_of hc
    have m1:=hu.least
    have m2:=hu.most
    have m3:=hu.most'
    have hg:1 ≤ g:=h1.1
    refine go_loop (fun f:Int => v_unit_Flows_s0 g (.slice (some 1049) 1 ((below u g f).map fun n => [i64 n])) f u.row (below u g f).length G) (fun f => u.least ≤ f ∧ f ≤ 1073741825 ∧ (below u g f).length ≤ 200) (fun f => (1073741826 - f).toNat) u.least rfl (by simp [below_none]) (by simp [below_none];omega) ?_
    rintro f ⟨hf1,hf2,hf3⟩
    obtain ⟨r1,r2,r3,r4⟩:=rup_spec (q:=f) (g:=g) (by omega) hg
    have r5:=below_rup hu (q:=f) (g:=g) (by omega) hg
    have r6:(f + g - 1).tdiv g * g = rup f g:=rfl
    have d1:0 ≤ (f + g - 1).tdiv g:=Int.tdiv_nonneg (by omega) (by omega)
    have d2:(f + g - 1).tdiv g ≤ f + g - 1:=by
     have:=Int.tdiv_le_self (a:=f + g - 1) g (by omega)
     omega
    have g0:¬g = 0:=by omega
    generalize rup f g = Z at r1 r2 r3 r4 r5 r6
    simp +contextual (disch:=omega) [-getElem?_pos,-List.length_eq_zero_iff,-Int.natCast_eq_zero,wrap64,v_unit_Flows_b0,g0,r6]
    refine cnd_dec (fun h2 => ?_) (fun h2 => ?_)
    ·have hb:below u g f = goods u g:=below_all fun q hq => by
      rw [mem_goods hu hg] at hq
      obtain ⟨hq,k,rfl⟩:=hq
      have:=hq.2.1
      refine Int.not_le.1 fun h => ?_
      have:=r4 k h
      omega
     have e:flE u g = 0:=by simp [flE,hc];rw [hb] at hf3;omega
     rw [hb]
     simp [fls,e]
    ·obtain ⟨r,s1,s2,s3,s4,s5⟩:=c_beyond hu Z []
     simp +contextual (disch:=omega) [-getElem?_pos,-List.length_eq_zero_iff,-Int.natCast_eq_zero,wrap64,s1]
     refine cnd_bool (fun h3 => ?_) (fun h3 => ?_)
     ·simp [-List.length_eq_zero_iff,-Int.natCast_eq_zero] at h3
      have hb:below u g f = below u g r:=by rw [r5,below_ins hu hg s4 s2]
      refine rnd_next r (by rw [hb];simp) ⟨by omega,by omega,by rwa [← hb]⟩ (by omega)
     ·simp [-List.length_eq_zero_iff,-Int.natCast_eq_zero] at h3
      subst h3
      have hm:r ∈ goods u g:=(mem_goods hu hg).2 ⟨⟨by omega,by omega,s3⟩,r3⟩
      have hb:below u g (r + 1) = below u g f ++ [r]:=by rw [r5,below_snoc hg hm]
      refine cnd_dec (fun h4 => ?_) (fun h4 => ?_)
      ·have:=below_lt hg hm
       have e:flE u g = 10:=by
        simp only [flE,hc,ne_eq,not_true,if_false]
        rw [if_neg (by omega),if_pos (by rw [← r5] at this;omega)]
       simp [fls,e]
      ·refine rnd_next (r + 1) (by rw [hb];simp) ⟨by omega,by omega,by rw [hb];simp;omega⟩ (by omega)
  ·have e:flE u g = uChk u:=by simp [flE,hc]
   simp +contextual (disch:=omega) [-getElem?_pos,-List.length_eq_zero_iff,-Int.natCast_eq_zero,wrap64,v_unit_Flows,c_unit_Check,hc]
   simp [fls,e,hc])
theorem c_r18_Flows (u:Un) (g:Int) (G:List GObj):Lim F 97 [un u,i64 g] G = some (.tuple [own (fls u g),i64 (flE u g)],G) :=
 eq_of rfl rfl (by
  by_cases hc:uChk u = 0
  ·simp +contextual (disch:=omega) [-getElem?_pos,-List.length_eq_zero_iff,-Int.natCast_eq_zero,wrap64,v_r18_Flows,c_r18_Check,hc]
   refine cnd_bool (fun h1 => ?_) (fun h1 => ?_)
   ·simp [-List.length_eq_zero_iff,-Int.natCast_eq_zero] at h1
    have e:flE u g = 1:=by simp [flE,hc,h1]
    simp [fls,e]
   ·simp [-List.length_eq_zero_iff,-Int.natCast_eq_zero] at h1
    have hu:=uv_of hc
    have m1:=hu.least
    have m2:=hu.most
    have m3:=hu.most'
    have hg:1 ≤ g:=h1.1
    have g0:¬g = 0:=by omega
    obtain ⟨r1,r2,r3,r4⟩:=rup_spec (q:=u.least) (g:=g) (by omega) hg
    have r5:=below_rup hu (q:=u.least) (g:=g) (by omega) hg
    have r6:(u.least + g - 1).tdiv g * g = rup u.least g:=rfl
    have d1:0 ≤ (u.least + g - 1).tdiv g:=Int.tdiv_nonneg (by omega) (by omega)
    have d2:(u.least + g - 1).tdiv g ≤ u.least + g - 1:=by
     have:=Int.tdiv_le_self (a:=u.least + g - 1) g (by omega)
     omega
    rw [below_none (by omega)] at r5
    generalize rup u.least g = Z at r1 r2 r3 r4 r5 r6
    simp +contextual (disch:=omega) [-getElem?_pos,-List.length_eq_zero_iff,-Int.natCast_eq_zero,wrap64,g0,r6]
    refine go_loop (fun f:Int => v_r18_Flows_s0 g (.slice (some 1056) 1 ((below u g f).map fun n => [i64 n])) f u.row (below u g f).length G) (fun f => u.least ≤ f ∧ f ≤ 2147483648 ∧ (∃ k:Nat,f = k * g) ∧ (below u g f).length ≤ 200) (fun f => (2147483649 - f).toNat) Z rfl (by simp [← r5]) ⟨by omega,by omega,r3,by rw [← r5];simp⟩ ?_
    rintro f ⟨hf1,hf2,hf4,hf3⟩
    simp +contextual (disch:=omega) [-getElem?_pos,-List.length_eq_zero_iff,-Int.natCast_eq_zero,wrap64,v_r18_Flows_b0]
    refine cnd_dec (fun h2 => ?_) (fun h2 => ?_)
    ·rcases c_inside hu f [] with ⟨e,s1,s2,s3,s4,s5⟩ | ⟨s1,s2⟩
     ·obtain ⟨p1,p2,p3,p4⟩:=rup_spec (q:=e) (g:=g) (by omega) hg
      have p5:=below_rup hu (q:=e) (g:=g) (by omega) hg
      have p6:(e + g - 1).tdiv g * g = rup e g:=rfl
      have t1:0 ≤ (e + g - 1).tdiv g:=Int.tdiv_nonneg (by omega) (by omega)
      have t2:(e + g - 1).tdiv g ≤ e + g - 1:=by
       have:=Int.tdiv_le_self (a:=e + g - 1) g (by omega)
       omega
      generalize rup e g = E at p1 p2 p3 p4 p5 p6
      simp +contextual (disch:=omega) [-getElem?_pos,-List.length_eq_zero_iff,-Int.natCast_eq_zero,wrap64,s1,g0,p6]
      have hb:below u g f = below u g E:=by rw [← p5];exact below_ins hu hg s5 (by omega)
      exact rnd_next E (by rw [hb];simp) ⟨by omega,by omega,p3,by rwa [← hb]⟩ (by omega)
     ·have hm:f ∈ goods u g ↔ u.least ≤ f:=by
       rw [mem_goods hu hg]
       exact ⟨fun h => h.1.1,fun h => ⟨⟨h,by omega,s2⟩,hf4⟩⟩
      have hm:=hm.2 hf1
      have hb:below u g (f + g) = below u g f ++ [f]:=by rw [← below_next hu hg hf4,below_snoc hg hm]
      simp +contextual (disch:=omega) [-getElem?_pos,-List.length_eq_zero_iff,-Int.natCast_eq_zero,wrap64,s1]
      refine cnd_dec (fun h4 => ?_) (fun h4 => ?_)
      ·have:=below_lt hg hm
       have e:flE u g = 10:=by
        simp only [flE,hc,ne_eq,not_true,if_false]
        rw [if_neg (by omega),if_pos (by omega)]
       simp [fls,e]
      ·refine rnd_next (f + g) (by rw [hb];simp) ⟨by omega,by omega,?_,by rw [hb];simp;omega⟩ (by omega)
       obtain ⟨k,hk⟩:=hf4
       exact ⟨k + 1,by rw [hk];simp [Int.add_mul]⟩
    ·have hb:below u g f = goods u g:=below_all fun q hq => by
      rw [mem_goods hu hg] at hq
      have:=hq.1.2.1
      omega
     have e:flE u g = 0:=by simp [flE,hc];rw [hb] at hf3;omega
     rw [hb]
     simp [fls,e]
  ·have e:flE u g = uChk u:=by simp [flE,hc]
   simp +contextual (disch:=omega) [-getElem?_pos,-List.length_eq_zero_iff,-Int.natCast_eq_zero,wrap64,v_r18_Flows,c_r18_Check,hc]
   simp [fls,e,hc])
end Go.Proofs.YtfjdfnegookkcaaGreat
namespace Go.Proofs.YtfjdfnegookkcaaGreat
set_option linter.all false
open Go.Vm
attribute [local simp] cond_yes cond_yes2 int_beq int_bne
theorem nth_app {α:Type} [Inhabited α] {l:List α} {a:α} {i:Nat}:nth (l ++ [a]) i = if i < l.length then nth l i else if i = l.length then a else default:=by
 simp only [nth,List.getD,List.getElem?_append]
 split
 ·rfl
 ·split
  ·rename_i h;subst h;simp
  ·rename_i h1 h2
   rw [List.getElem?_eq_none (by simp;omega)]
   rfl
structure Cw (c:List Pt) (x y dx dy least:Int):Prop where
 pos:0 < c.length
 few:c.length ≤ 5
 first:nth c 0 = ⟨x,y⟩
 step:∀ i,0 < i → i < c.length → ((nth c (i - 1)).x < (nth c i).x ∧ (nth c i).x ≤ (nth c (i - 1)).x + dx) ∧ (nth c (i - 1)).y + least ≤ (nth c i).y ∧ (nth c i).y ≤ (nth c (i - 1)).y + dy
theorem Cw.up {c:List Pt} {x y dx dy least:Int} (h:Cw c x y dx dy least) (h0:0 ≤ x ∧ x ≤ 1000) (h1:0 ≤ y ∧ y ≤ 1000) (h2:0 ≤ dx ∧ dx ≤ 1000) (h3:0 ≤ dy ∧ dy ≤ 1000) (h4:0 ≤ least) :
  ∀ i:Nat,i < c.length → (0 ≤ (nth c i).x ∧ (nth c i).x ≤ 1000 + 1000 * (i:Int)) ∧ 0 ≤ (nth c i).y ∧ (nth c i).y ≤ 1000 + 1000 * (i:Int):=by
 intro i
 induction i with
 | zero => intro hi;have:=h.first;rw [this];simp;omega
 | succ i ih =>
   intro hi
   have a:=ih (by omega)
   have b:=h.step (i + 1) (by omega) hi
   simp only [Nat.add_sub_cancel] at b
   omega
theorem Cw.chk {c:List Pt} {x y dx dy least:Int} (h:Cw c x y dx dy least) (h0:0 ≤ x ∧ x ≤ 1000) (h1:0 ≤ y ∧ y ≤ 1000) (h2:0 ≤ dx ∧ dx ≤ 1000) (h3:0 ≤ dy ∧ dy ≤ 1000) (h4:0 ≤ least):cChk c = 0:=by
 have hp:=h.pos
 have hf:=h.few
 unfold cChk
 rw [if_neg (by omega),if_neg (by omega)]
 refine fsE_zero fun i _ hi => ?_
 have a:=h.up h0 h1 h2 h3 h4 i (by omega)
 unfold cAt
 rw [if_neg (by omega)]
 split
 ·rfl
 ·have b:=h.step i (by omega) (by omega)
  rw [if_neg (by omega),if_neg]
  rw [Int.tdiv_eq_ediv_of_nonneg (by omega)]
  generalize hu:(nth c i).x - (nth c (i - 1)).x = u
  generalize hv:(nth c i).y - (nth c (i - 1)).y = v
  refine Int.not_lt.2 ((Int.le_ediv_iff_mul_le (by omega)).2 ?_)
  have:v * u ≤ 1000 * 1000:=Int.mul_le_mul (by omega) (by omega) (by omega) (by omega)
  omega
abbrev opts (c:List Pt):V:=.slice (some 0) 2 (c.map Pt.row)
theorem c_mk_Curve {l:List Int} {k:Nat} (hd:okd l k) {x y dx dy:Int} (strict:Bool) (h0:0 ≤ x ∧ x ≤ 1000) (h1:0 ≤ y ∧ y ≤ 1000) (h2:1 ≤ dx ∧ dx ≤ 1000) (h3:1 ≤ dy ∧ dy ≤ 1000) :
  ∃ c k',Lim F 67 [.gptr 0 0,i64 x,i64 y,i64 dx,i64 dy,.bool strict] [dk l k] = some (opts c,[dk l k']) ∧ okd l k' ∧ 2 ≤ c.length ∧ Cw c x y dx dy (if strict then 1 else 0):=by
 suffices h:Ret (Lim F) 67 [.gptr 0 0,i64 x,i64 y,i64 dx,i64 dy,.bool strict] [dk l k] fun v G => ∃ c k',v = opts c ∧ G = [dk l k'] ∧ okd l k' ∧ 2 ≤ c.length ∧ Cw c x y dx dy (if strict then 1 else 0) by
  obtain ⟨_,_,h,c,k',rfl,rfl,h1⟩:=h
  exact ⟨c,k',h,h1⟩
 generalize hL:(if strict then 1 else 0:Int) = L
 have hL1:0 ≤ L ∧ L ≤ 1:=by rw [← hL];cases strict <;> simp
 refine ret_of rfl rfl ?_
 obtain ⟨a,k1,n1,hd1,ha⟩:=c_Next hd 4 (by omega)
 have main:∀ K:Post,(∀ c k',okd l k' → 2 ≤ c.length → Cw c x y dx dy L → ∀ z,K (.exit 0) ⟨[(0,.gptr 0 0),(1,i64 (nth c (c.length - 1)).x),(2,i64 (nth c (c.length - 1)).y),(3,i64 dx),(4,i64 dy),(13,i64 L),(14,.slice (some 1020) 2 (c.map Pt.row)),(15,i64 0),(25,z)],[],[(1020,c.length)],[dk l k']⟩) →
   go (Lim F) v_mk_Curve_l0 (v_mk_Curve_s0 (.gptr 0 0) x y dx dy L (.slice (some 1020) 2 [Pt.row ⟨x,y⟩]) (1 + a) 1 [dk l k1]) K:=by
  intro K hK
  refine go_loop (fun s:List Pt × Int × Nat => v_mk_Curve_s0 (.gptr 0 0) (nth s.1 (s.1.length - 1)).x (nth s.1 (s.1.length - 1)).y dx dy L (.slice (some 1020) 2 (s.1.map Pt.row)) s.2.1 s.1.length [dk l s.2.2])
   (fun s => Cw s.1 x y dx dy L ∧ (0 < s.2.1 ∨ 2 ≤ s.1.length) ∧ 0 ≤ s.2.1 ∧ (s.1.length:Int) + s.2.1 ≤ 5 ∧ okd l s.2.2) (fun s => s.2.1.toNat) ([⟨x,y⟩],1 + a,k1) rfl (by simp [nth]) ⟨⟨by simp,by simp,rfl,fun i a b => by simp at b;omega⟩,by simp;omega,by simp;omega,by simp;omega,hd1⟩ ?_
  rintro ⟨c,m,k⟩ ⟨hc,hm1,hm2,hm3,hd⟩
  simp only at hc hm1 hm2 hm3 hd
  have hp:=hc.pos
  have hu:=hc.up h0 h1 ⟨by omega,h2.2⟩ ⟨by omega,h3.2⟩ hL1.1 (c.length - 1) (by omega)
  obtain ⟨p,k2,n2,hd2,hp2⟩:=c_Next hd dx (by omega)
  obtain ⟨q,k3,n3,hd3,hq⟩:=c_Next hd2 dy (by omega)
  simp +contextual (disch:=omega) [-getElem?_pos,-List.length_eq_zero_iff,-Int.natCast_eq_zero,wrap64,v_mk_Curve_b0]
  refine cnd_dec (fun h4 => ?_) (fun h4 => ?_)
  ·simp +contextual (disch:=omega) [-getElem?_pos,-List.length_eq_zero_iff,-Int.natCast_eq_zero,wrap64,n2,n3]
   refine rnd_next (c ++ [⟨(nth c (c.length - 1)).x + 1 + p,(nth c (c.length - 1)).y + L + q⟩],m - 1,k3) (by simp [nth_app]) ⟨⟨by simp,by simp;omega,?_,fun i hi hj => ?_⟩,by simp;omega,by simp;omega,by simp;omega,hd3⟩ (by simp;omega)
   ·rw [nth_app,if_pos hp];exact hc.first
   ·simp at hj
    rw [nth_app,nth_app]
    by_cases hi2:i < c.length
    ·rw [if_pos (by omega),if_pos (by omega)]
     exact hc.step i hi hi2
    ·obtain rfl:i = c.length:=by omega
     rw [if_pos (by omega),if_neg (by omega),if_pos rfl]
     simp only
     omega
  ·obtain rfl:m = 0:=by omega
   exact hK c k hd (by omega) hc _
 cases strict with
 | true =>
   simp at hL
   subst hL
   simp +contextual (disch:=omega) [-getElem?_pos,-List.length_eq_zero_iff,-Int.natCast_eq_zero,wrap64,v_mk_Curve,n1]
   refine main _ fun c k' q1 q2 q3 z => ?_
   simp +contextual (disch:=omega) [-getElem?_pos,-List.length_eq_zero_iff,-Int.natCast_eq_zero,wrap64,wrap64]
   exact ⟨c,rfl,k',rfl,q1,q2,q3⟩
 | false =>
   simp at hL
   subst hL
   simp +contextual (disch:=omega) [-getElem?_pos,-List.length_eq_zero_iff,-Int.natCast_eq_zero,wrap64,v_mk_Curve,n1]
   refine main _ fun c k' q1 q2 q3 z => ?_
   simp +contextual (disch:=omega) [-getElem?_pos,-List.length_eq_zero_iff,-Int.natCast_eq_zero,wrap64,wrap64]
   exact ⟨c,rfl,k',rfl,q1,q2,q3⟩
structure Uw (u:Un):Prop where
 table:Cw u.table 0 0 10 30 0
 two:2 ≤ u.table.length
 least:1 ≤ u.least ∧ u.least ≤ 8
 most:u.least ≤ u.most ∧ u.most ≤ 19
 few:u.rough.length ≤ 2
 zone:∀ i,i < u.rough.length → (0 ≤ (nth u.rough i).lo ∧ (nth u.rough i).hi ≤ 20) ∧ (nth u.rough i).lo < (nth u.rough i).hi
 up:0 ≤ u.up ∧ u.up ≤ 2
 down:0 ≤ u.down ∧ u.down ≤ 2
theorem Uw.chk {u:Un} (h:Uw u):uChk u = 0:=by
 have c:=h.table.chk (by omega) (by omega) (by omega) (by omega) (by omega)
 have hp:=h.table.pos
 have hf:=h.table.few
 have hu:=h.table.up (by omega) (by omega) (by omega) (by omega) (by omega) (u.table.length - 1) (by omega)
 have a1:=h.least
 have a2:=h.most
 have a3:=h.few
 have a4:=h.up
 have a5:=h.down
 have z:fsE (zAt u.rough) u.rough.length 0 = 0:=fsE_zero fun i _ hi => by
  have:=h.zone i (by omega)
  rw [zAt,if_neg (by omega),if_neg (by omega)]
 unfold uChk
 rw [if_neg (by omega),if_neg (by omega),if_neg (by omega),if_neg (by omega),if_neg (by omega),if_neg (by omega)]
abbrev ung (u:Un):V:=.agg [pts u.table,i64 u.least,i64 u.most,.slice (some 0) 2 (u.rough.map Bd.row),i64 u.up,i64 u.down]
theorem c_mk_Unit {l:List Int} {k:Nat} (hd:okd l k):∃ u k',Lim F 68 [.gptr 0 0] [dk l k] = some (ung u,[dk l k']) ∧ okd l k' ∧ Uw u:=by
 suffices h:Ret (Lim F) 68 [.gptr 0 0] [dk l k] fun v G => ∃ u k',v = ung u ∧ G = [dk l k'] ∧ okd l k' ∧ Uw u by
  obtain ⟨_,_,h,u,k',rfl,rfl,h1⟩:=h
  exact ⟨u,k',h,h1⟩
 refine ret_of rfl rfl ?_
 obtain ⟨c,k1,n1,hd1,hc2,hc⟩:=c_mk_Curve hd (x:=0) (y:=0) (dx:=10) (dy:=30) false (by omega) (by omega) (by omega) (by omega)
 obtain ⟨a1,k2,n2,hd2,ha1⟩:=c_Next hd1 8 (by omega)
 obtain ⟨a2,k3,n3,hd3,ha2⟩:=c_Next hd2 3 (by omega)
 obtain ⟨a3,k4,n4,hd4,ha3⟩:=c_Next hd3 3 (by omega)
 obtain ⟨a4,k5,n5,hd5,ha4⟩:=c_Next hd4 12 (by omega)
 obtain ⟨a5,k6,n6,hd6,ha5⟩:=c_Next hd5 3 (by omega)
 simp +contextual (disch:=omega) [-getElem?_pos,-List.length_eq_zero_iff,-Int.natCast_eq_zero,wrap64,v_mk_Unit,n1,n2,n3,n4,n5,n6]
 refine go_loop (fun s:List Bd × Int × Nat => v_mk_Unit_s0 (.gptr 0 0) s.2.1 [.nils,i64 0,i64 0,.nils,i64 0,i64 0] [pts c,i64 (1 + a1),i64 (1 + a1 + a4),.slice (some 1040) 2 (s.1.map Bd.row),i64 a2,i64 a3] s.1.length [dk l s.2.2])
  (fun s => (∀ i,i < s.1.length → (0 ≤ (nth s.1 i).lo ∧ (nth s.1 i).hi ≤ 20) ∧ (nth s.1 i).lo < (nth s.1 i).hi) ∧ 0 ≤ s.2.1 ∧ (s.1.length:Int) + s.2.1 ≤ 2 ∧ okd l s.2.2) (fun s => s.2.1.toNat) ([],a5,k6) rfl (by simp) ⟨fun i h => by simp at h,by simp;omega,by simp;omega,hd6⟩ ?_
 rintro ⟨z,m,k⟩ ⟨hz,hm1,hm2,hd⟩
 simp only at hz hm1 hm2 hd
 obtain ⟨b1,k7,n7,hd7,hb1⟩:=c_Next hd 16 (by omega)
 obtain ⟨b2,k8,n8,hd8,hb2⟩:=c_Next hd7 5 (by omega)
 simp +contextual (disch:=omega) [-getElem?_pos,-List.length_eq_zero_iff,-Int.natCast_eq_zero,wrap64,v_mk_Unit_b0]
 refine cnd_dec (fun h4 => ?_) (fun h4 => ?_)
 ·simp +contextual (disch:=omega) [-getElem?_pos,-List.length_eq_zero_iff,-Int.natCast_eq_zero,wrap64,n7,n8]
  refine rnd_next (z ++ [⟨b1,b1 + 1 + b2⟩],m - 1,k8) (by simp) ⟨fun i hi => ?_,by simp;omega,by simp;omega,hd8⟩ (by simp;omega)
  simp at hi
  rw [nth_app]
  split
  ·exact hz i (by assumption)
  ·rw [if_pos (by omega)]
   simp only
   omega
 ·refine ⟨⟨c,1 + a1,1 + a1 + a4,z,a2,a3⟩,⟨rfl,rfl,rfl,rfl,rfl,rfl⟩,k,rfl,hd,?_⟩
  exact ⟨hc,hc2,by simp only;omega,by simp only;omega,by simp only;omega,hz,by simp only;omega,by simp only;omega⟩
theorem goods_few {u:Un} {g:Int}:(goods u g).length ≤ (u.most / g).toNat + 1:=by
 refine Nat.le_trans (List.length_filter_le _ _) ?_
 simp
theorem Uw.flE {u:Un} (h:Uw u) {g:Int} (h1:1 ≤ g) (h2:g ≤ 1073741824):flE u g = 0:=by
 have a:=goods_few (u:=u) (g:=g)
 have b:=h.most
 have c:=h.least
 have d:u.most / g ≤ u.most:=Int.ediv_le_self _ (by omega)
 unfold Go.Proofs.YtfjdfnegookkcaaGreat.flE
 rw [if_neg (by simp [h.chk]),if_neg (by omega),if_neg (by omega)]
theorem c_mk_UnitState {l:List Int} {k:Nat} (hd:okd l k) {u:Un} (hu:Uw u):∃ s k',Lim F 69 [.gptr 0 0,un u] [dk l k] = some (us s,[dk l k']) ∧ okd l k' ∧ validP u s:=by
 suffices h:∀ Q:V → List GObj → Prop,(∀ s k',okd l k' → validP u s → Q (us s) [dk l k']) → Ret (Lim F) 69 [.gptr 0 0,un u] [dk l k] Q by
  obtain ⟨_,_,h,s,k',rfl,rfl,h1⟩:=h (fun v G => ∃ s k',v = us s ∧ G = [dk l k'] ∧ okd l k' ∧ validP u s) fun s k' a b => ⟨s,k',rfl,rfl,a,b⟩
  exact ⟨s,k',h,h1⟩
 intro Q hQ
 refine ret_of rfl rfl ?_
 have hc:=hu.chk
 have he:=hu.flE (g:=1) (by omega) (by omega)
 have hf:fls u 1 = goods u 1:=by simp [fls,he]
 have hfew:=goods_few (u:=u) (g:=1)
 have hm:=hu.most
 obtain ⟨a1,k1,n1,hd1,ha1⟩:=c_Next hd 5 (by omega)
 obtain ⟨a2,k2,n2,hd2,ha2⟩:=c_Next hd1 7 (by omega)
 obtain ⟨a3,k3,n3,hd3,ha3⟩:=c_Next hd2 2 (by omega)
 obtain ⟨a4,k4,n4,hd4,ha4⟩:=c_Next hd3 (goods u 1).length (by omega)
 have off:∀ o,validP u ⟨0,a1,o⟩:=fun o => ⟨hc,by simp only;omega,.inl rfl⟩
 by_cases h1:0 < (goods u 1).length
 ·by_cases h2:a2 = 6
  ·simp +contextual (disch:=omega) [-getElem?_pos,-List.length_eq_zero_iff,-Int.natCast_eq_zero,wrap64,v_mk_UnitState,n1,n2,c_r18_Flows,he,hf,h2]
   exact hQ ⟨0,a1,true⟩ k2 hd2 (off _)
  ·by_cases h3:a3 = 0
   ·have h4:a4.toNat < (goods u 1).length:=by omega
    simp +contextual (disch:=omega) [-getElem?_pos,-List.length_eq_zero_iff,-Int.natCast_eq_zero,wrap64,v_mk_UnitState,n1,n2,n3,n4,c_r18_Flows,he,hf,h2,h3,h1,get_int h4]
    refine hQ ⟨nth (goods u 1) a4.toNat,a1,false⟩ k4 hd4 ⟨hc,by simp only;omega,.inr ⟨rfl,?_⟩⟩
    exact ((mem_goods (uv_of hc) (by omega)).1 (List.mem_of_getElem? (get_int h4))).1
   ·simp +contextual (disch:=omega) [-getElem?_pos,-List.length_eq_zero_iff,-Int.natCast_eq_zero,wrap64,v_mk_UnitState,n1,n2,n3,c_r18_Flows,he,hf,h2,h3,h1]
    exact hQ ⟨0,a1,false⟩ k3 hd3 (off _)
 ·simp +contextual (disch:=omega) [-getElem?_pos,-List.length_eq_zero_iff,-Int.natCast_eq_zero,wrap64,v_mk_UnitState,n1,n2,c_r18_Flows,he,hf,h1]
  exact hQ ⟨0,a1,decide (a2 = 6)⟩ k2 hd2 (off _)
abbrev uns (l:List Un):V:=.slice none 6 (l.map Un.row)
abbrev sts (l:List Us):V:=.slice none 3 (l.map Us.row)
abbrev unsO (l:List Un):V:=.slice (some 0) 6 (l.map Un.row)
abbrev stsO (l:List Us):V:=.slice (some 0) 3 (l.map Us.row)
structure Uws (a:List Un) (b:List Us):Prop where
 len:a.length = b.length
 unit:∀ i,i < a.length → Uw (nth a i)
 state:∀ i,i < a.length → validP (nth a i) (nth b i)
theorem c_mk_Units {l:List Int} {k:Nat} (hd:okd l k) {m:Nat} (hm:m ≤ 1000):∃ a b k',Lim F 35 [.gptr 0 0,i64 m] [dk l k] = some (.tuple [unsO a,stsO b],[dk l k']) ∧ okd l k' ∧ Uws a b ∧ a.length ≤ m:=by
 suffices h:∀ Q:V → List GObj → Prop,(∀ a b k',okd l k' → Uws a b → a.length ≤ m → Q (.tuple [unsO a,stsO b]) [dk l k']) → Ret (Lim F) 35 [.gptr 0 0,i64 m] [dk l k] Q by
  obtain ⟨_,_,h,a,b,k',rfl,rfl,h1⟩:=h (fun v G => ∃ a b k',v = .tuple [unsO a,stsO b] ∧ G = [dk l k'] ∧ okd l k' ∧ Uws a b ∧ a.length ≤ m) fun a b k' h1 h2 h3 => ⟨a,b,k',rfl,rfl,h1,h2,h3⟩
  exact ⟨a,b,k',h,h1⟩
 intro Q hQ
 refine ret_of rfl rfl ?_
 obtain ⟨n,k1,n1,hd1,hn⟩:=c_Next hd (m + 1) (by omega)
 simp +contextual (disch:=omega) [-getElem?_pos,-List.length_eq_zero_iff,-Int.natCast_eq_zero,wrap64,v_mk_Units,n1]
 refine go_loop (fun s:List Un × List Us × Int × Nat => v_mk_Units_s0 (.gptr 0 0) (.slice (some 1023) 6 (s.1.map Un.row)) (.slice (some 1029) 3 (s.2.1.map Us.row)) s.2.2.1 s.1.length s.2.1.length [dk l s.2.2.2])
  (fun s => Uws s.1 s.2.1 ∧ (s.1.length:Int) + s.2.2.1 ≤ m ∧ 0 ≤ s.2.2.1 ∧ okd l s.2.2.2) (fun s => s.2.2.1.toNat) ([],[],n,k1) rfl (by simp) ⟨⟨rfl,by simp,by simp⟩,by simp;omega,by simp;omega,hd1⟩ ?_
 rintro ⟨a,b,n,k⟩ ⟨hab,h1,h2,hd⟩
 simp only at hab h1 h2 hd
 obtain ⟨u,k2,n2,hd2,hu⟩:=c_mk_Unit hd
 obtain ⟨s,k3,n3,hd3,hs⟩:=c_mk_UnitState hd2 hu
 have hl:=hab.len
 simp +contextual (disch:=omega) [-getElem?_pos,-List.length_eq_zero_iff,-Int.natCast_eq_zero,wrap64,v_mk_Units_b0]
 refine cnd_dec (fun h4 => ?_) (fun h4 => ?_)
 ·simp +contextual (disch:=omega) [-getElem?_pos,-List.length_eq_zero_iff,-Int.natCast_eq_zero,wrap64,n2,n3]
  refine rnd_next (a ++ [u],b ++ [s],n - 1,k3) (by simp) ⟨⟨by simp [hl],fun i hi => ?_,fun i hi => ?_⟩,by simp;omega,by simp;omega,hd3⟩ (by simp;omega)
  ·simp at hi
   rw [nth_app]
   split
   ·exact hab.unit i (by assumption)
   ·rw [if_pos (by omega)];exact hu
  ·simp at hi
   rw [nth_app,nth_app,← hl]
   split
   ·exact hab.state i (by assumption)
   ·rw [if_pos (by omega),if_pos (by omega)];exact hs
 ·exact hQ a b k hd hab (by omega)
end Go.Proofs.YtfjdfnegookkcaaGreat
