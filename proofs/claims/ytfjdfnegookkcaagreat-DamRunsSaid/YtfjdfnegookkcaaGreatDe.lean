/- Parts of the proof, joined: Dam1, Dam2, Dam3, Dam4, Dam5, Dam6, Mk3, Mk4, Dmo1. -/
import Derived.Test.YtfjdfnegookkcaaGreatDd
namespace Go.Proofs.YtfjdfnegookkcaaGreat
set_option linter.all false
open Go.Vm
attribute [local simp] cond_yes cond_yes2 int_beq int_bne
structure Dm where
 r:Rs
 u:List Un
 g:List Gt
 gr:Int
abbrev Dm.row (d:Dm):List V:=[pts d.r.c,i64 d.r.d,i64 d.r.l,i64 d.r.f,i64 d.r.s,i64 d.r.t,uns d.u,gts d.g,i64 d.gr]
abbrev dm (d:Dm):V:=.agg d.row
structure Ds where
 v:Int
 rel:Int
 u:List Us
 g:List Gs
 deriving Inhabited
abbrev Ds.row (s:Ds):List V:=[i64 s.v,i64 s.rel,sts s.u,gss s.g]
abbrev dst (s:Ds):V:=.agg s.row
def uE (u:List Un):Int:=fsE (fun i => uChk (nth u i)) u.length 0
def gE (g:List Gt):Int:=fsE (fun i => gChk (nth g i)) g.length 0
def dChk (d:Dm):Int :=
 if sChk d.r ≠ 0 then sChk d.r else if 6 < d.u.length ∨ 8 < d.g.length then 10 else if uE d.u ≠ 0 then uE d.u else if gE d.g ≠ 0 then gE d.g
 else if d.gr < 1 ∨ 1073741824 < d.gr then 1 else 0
theorem c_dam_Check (d:Dm) (G:List GObj):Lim F 16 [dm d] G = some (i64 (dChk d),G) :=
 eq_of rfl rfl (by
  obtain ⟨r,u,g,gr⟩:=d
  generalize hW:dChk ⟨r,u,g,gr⟩ = W
  unfold dChk at hW
  simp only at hW
  have hS:=fun G => c_storage_Check r G
  have hS3:=fun G => c_r03_Check r G
  by_cases h1:sChk r = 0
  ·rw [if_neg (by omega)] at hW
   by_cases h2:6 < u.length
   ·rw [if_pos (.inl h2)] at hW
    have h2':(6:Int) < u.length:=by omega
    simp +contextual (disch:=omega) [-getElem?_pos,-List.length_eq_zero_iff,-Int.natCast_eq_zero,wrap64,v_dam_Check,hS,hS3,h1,h2']
    exact hW
   by_cases h3:8 < g.length
   ·rw [if_pos (.inr h3)] at hW
    have h2':¬ (6:Int) < u.length:=by omega
    have h3':(8:Int) < g.length:=by omega
    simp +contextual (disch:=omega) [-getElem?_pos,-List.length_eq_zero_iff,-Int.natCast_eq_zero,wrap64,v_dam_Check,hS,hS3,h1,h2',h3']
    exact hW
   rw [if_neg (by omega)] at hW
   have h2':¬ (6:Int) < u.length:=by omega
   have h3':¬ (8:Int) < g.length:=by omega
   simp +contextual (disch:=omega) [-getElem?_pos,-List.length_eq_zero_iff,-Int.natCast_eq_zero,wrap64,v_dam_Check,hS,hS3,h1,h2',h3']
   refine go_loop (fun i:Nat => v_dam_Check_s0 (uns u) u.length i (Dm.row ⟨r,u,g,gr⟩) G) (fun i => i ≤ u.length ∧ fsE (fun i => uChk (nth u i)) (u.length - i) i = uE u) (fun i => u.length - i) 0 rfl (by simp) ⟨by omega,rfl⟩ ?_
   rintro i ⟨hi,hq⟩
   simp +contextual (disch:=omega) [-getElem?_pos,-List.length_eq_zero_iff,-Int.natCast_eq_zero,wrap64,v_dam_Check_b0]
   refine cnd_dec (fun h4 => ?_) (fun h4 => ?_)
   ·have h4:i < u.length:=by omega
    rw [fsE_step h4] at hq
    by_cases h5:uChk (nth u i) = 0
    ·rw [if_pos h5] at hq
     simp +contextual (disch:=omega) [-getElem?_pos,-List.length_eq_zero_iff,-Int.natCast_eq_zero,wrap64,get_nth (l:=u),c_unit_Check,c_r18_Check,h5]
     exact rnd_next (i + 1) (by simp) ⟨by omega,hq⟩ (by omega)
    ·rw [if_neg h5] at hq
     rw [← hq,if_pos h5] at hW
     simp +contextual (disch:=omega) [-getElem?_pos,-List.length_eq_zero_iff,-Int.natCast_eq_zero,wrap64,get_nth (l:=u),c_unit_Check,c_r18_Check,h5]
     exact hW
   ·obtain rfl:i = u.length:=by omega
    rw [fsE_end] at hq
    rw [← hq,if_neg (by omega)] at hW
    refine go_loop (fun i:Nat => v_dam_Check_s1 (gts g) g.length i (Dm.row ⟨r,u,g,gr⟩) G) (fun i => i ≤ g.length ∧ fsE (fun i => gChk (nth g i)) (g.length - i) i = gE g) (fun i => g.length - i) 0 rfl (by simp) ⟨by omega,rfl⟩ ?_
    rintro i ⟨hi,hq⟩
    simp +contextual (disch:=omega) [-getElem?_pos,-List.length_eq_zero_iff,-Int.natCast_eq_zero,wrap64,v_dam_Check_b1]
    refine cnd_dec (fun h4 => ?_) (fun h4 => ?_)
    ·have h4:i < g.length:=by omega
     rw [fsE_step h4] at hq
     by_cases h5:gChk (nth g i) = 0
     ·rw [if_pos h5] at hq
      simp +contextual (disch:=omega) [-getElem?_pos,-List.length_eq_zero_iff,-Int.natCast_eq_zero,wrap64,get_nth (l:=g),c_gate_Check,c_r20_Check,h5]
      exact rnd_next (i + 1) (by simp) ⟨by omega,hq⟩ (by omega)
     ·rw [if_neg h5] at hq
      rw [← hq,if_pos h5] at hW
      simp +contextual (disch:=omega) [-getElem?_pos,-List.length_eq_zero_iff,-Int.natCast_eq_zero,wrap64,get_nth (l:=g),c_gate_Check,c_r20_Check,h5]
      exact hW
    ·obtain rfl:i = g.length:=by omega
     rw [fsE_end] at hq
     rw [← hq,if_neg (by omega)] at hW
     by_cases h6:gr < 1
     ·rw [if_pos (.inl h6)] at hW
      simp +contextual (disch:=omega) [-getElem?_pos,-List.length_eq_zero_iff,-Int.natCast_eq_zero,wrap64,h6]
      exact hW
     ·by_cases h7:1073741824 < gr
      ·rw [if_pos (.inr h7)] at hW
       simp +contextual (disch:=omega) [-getElem?_pos,-List.length_eq_zero_iff,-Int.natCast_eq_zero,wrap64,h6,h7]
       exact hW
      ·rw [if_neg (by omega)] at hW
       simp +contextual (disch:=omega) [-getElem?_pos,-List.length_eq_zero_iff,-Int.natCast_eq_zero,wrap64,h6,h7]
       exact hW
  ·rw [if_pos h1] at hW
   simp +contextual (disch:=omega) [-getElem?_pos,-List.length_eq_zero_iff,-Int.natCast_eq_zero,wrap64,v_dam_Check,hS,hS3,h1]
   exact hW)
theorem c_r22_Check (d:Dm) (G:List GObj):Lim F 17 [dm d] G = some (i64 (dChk d),G) :=
 eq_of rfl rfl (by
  obtain ⟨r,u,g,gr⟩:=d
  generalize hW:dChk ⟨r,u,g,gr⟩ = W
  unfold dChk at hW
  simp only at hW
  have hS:=fun G => c_storage_Check r G
  have hS3:=fun G => c_r03_Check r G
  by_cases h1:sChk r = 0
  ·rw [if_neg (by omega)] at hW
   by_cases h2:6 < u.length
   ·rw [if_pos (.inl h2)] at hW
    have h2':(6:Int) < u.length:=by omega
    simp +contextual (disch:=omega) [-getElem?_pos,-List.length_eq_zero_iff,-Int.natCast_eq_zero,wrap64,v_r22_Check,hS,hS3,h1,h2']
    exact hW
   by_cases h3:8 < g.length
   ·rw [if_pos (.inr h3)] at hW
    have h2':¬ (6:Int) < u.length:=by omega
    have h3':(8:Int) < g.length:=by omega
    simp +contextual (disch:=omega) [-getElem?_pos,-List.length_eq_zero_iff,-Int.natCast_eq_zero,wrap64,v_r22_Check,hS,hS3,h1,h2',h3']
    exact hW
   rw [if_neg (by omega)] at hW
   have h2':¬ (6:Int) < u.length:=by omega
   have h3':¬ (8:Int) < g.length:=by omega
   simp +contextual (disch:=omega) [-getElem?_pos,-List.length_eq_zero_iff,-Int.natCast_eq_zero,wrap64,v_r22_Check,hS,hS3,h1,h2',h3']
   refine go_loop (fun i:Nat => v_r22_Check_s0 (uns u) u.length i (Dm.row ⟨r,u,g,gr⟩) G) (fun i => i ≤ u.length ∧ fsE (fun i => uChk (nth u i)) (u.length - i) i = uE u) (fun i => u.length - i) 0 rfl (by simp) ⟨by omega,rfl⟩ ?_
   rintro i ⟨hi,hq⟩
   simp +contextual (disch:=omega) [-getElem?_pos,-List.length_eq_zero_iff,-Int.natCast_eq_zero,wrap64,v_r22_Check_b0]
   refine cnd_dec (fun h4 => ?_) (fun h4 => ?_)
   ·have h4:i < u.length:=by omega
    rw [fsE_step h4] at hq
    by_cases h5:uChk (nth u i) = 0
    ·rw [if_pos h5] at hq
     simp +contextual (disch:=omega) [-getElem?_pos,-List.length_eq_zero_iff,-Int.natCast_eq_zero,wrap64,get_nth (l:=u),c_unit_Check,c_r18_Check,h5]
     exact rnd_next (i + 1) (by simp) ⟨by omega,hq⟩ (by omega)
    ·rw [if_neg h5] at hq
     rw [← hq,if_pos h5] at hW
     simp +contextual (disch:=omega) [-getElem?_pos,-List.length_eq_zero_iff,-Int.natCast_eq_zero,wrap64,get_nth (l:=u),c_unit_Check,c_r18_Check,h5]
     exact hW
   ·obtain rfl:i = u.length:=by omega
    rw [fsE_end] at hq
    rw [← hq,if_neg (by omega)] at hW
    refine go_loop (fun i:Nat => v_r22_Check_s1 (gts g) g.length i (Dm.row ⟨r,u,g,gr⟩) G) (fun i => i ≤ g.length ∧ fsE (fun i => gChk (nth g i)) (g.length - i) i = gE g) (fun i => g.length - i) 0 rfl (by simp) ⟨by omega,rfl⟩ ?_
    rintro i ⟨hi,hq⟩
    simp +contextual (disch:=omega) [-getElem?_pos,-List.length_eq_zero_iff,-Int.natCast_eq_zero,wrap64,v_r22_Check_b1]
    refine cnd_dec (fun h4 => ?_) (fun h4 => ?_)
    ·have h4:i < g.length:=by omega
     rw [fsE_step h4] at hq
     by_cases h5:gChk (nth g i) = 0
     ·rw [if_pos h5] at hq
      simp +contextual (disch:=omega) [-getElem?_pos,-List.length_eq_zero_iff,-Int.natCast_eq_zero,wrap64,get_nth (l:=g),c_gate_Check,c_r20_Check,h5]
      exact rnd_next (i + 1) (by simp) ⟨by omega,hq⟩ (by omega)
     ·rw [if_neg h5] at hq
      rw [← hq,if_pos h5] at hW
      simp +contextual (disch:=omega) [-getElem?_pos,-List.length_eq_zero_iff,-Int.natCast_eq_zero,wrap64,get_nth (l:=g),c_gate_Check,c_r20_Check,h5]
      exact hW
    ·obtain rfl:i = g.length:=by omega
     rw [fsE_end] at hq
     rw [← hq,if_neg (by omega)] at hW
     by_cases h6:gr < 1
     ·rw [if_pos (.inl h6)] at hW
      simp +contextual (disch:=omega) [-getElem?_pos,-List.length_eq_zero_iff,-Int.natCast_eq_zero,wrap64,h6]
      exact hW
     ·by_cases h7:1073741824 < gr
      ·rw [if_pos (.inr h7)] at hW
       simp +contextual (disch:=omega) [-getElem?_pos,-List.length_eq_zero_iff,-Int.natCast_eq_zero,wrap64,h6,h7]
       exact hW
      ·rw [if_neg (by omega)] at hW
       simp +contextual (disch:=omega) [-getElem?_pos,-List.length_eq_zero_iff,-Int.natCast_eq_zero,wrap64,h6,h7]
       exact hW
  ·rw [if_pos h1] at hW
   simp +contextual (disch:=omega) [-getElem?_pos,-List.length_eq_zero_iff,-Int.natCast_eq_zero,wrap64,v_r22_Check,hS,hS3,h1]
   exact hW)
end Go.Proofs.YtfjdfnegookkcaaGreat
namespace Go.Proofs.YtfjdfnegookkcaaGreat
set_option linter.all false
open Go.Vm
attribute [local simp] cond_yes cond_yes2 int_beq int_bne
structure Sv (r:Rs):Prop where
 c:cChk r.c = 0
 two:2 ≤ r.c.length
 top:(nth r.c (r.c.length - 1)).x ≤ 16777216
 up:∀ i,1 ≤ i → i < r.c.length → (nth r.c (i - 1)).y < (nth r.c i).y
 d:(nth r.c 0).x ≤ r.d
 l:r.d ≤ r.l
 f:r.l ≤ r.f
 s:r.f ≤ r.s
 t:r.s ≤ r.t
 last:r.t ≤ (nth r.c (r.c.length - 1)).x
theorem sv_of {r:Rs} (h:sChk r = 0):Sv r:=by
 have hc:=sChk_c h
 unfold sChk at h
 rw [if_neg (by omega)] at h
 split at h
 ·cases h
 split at h
 ·cases h
 split at h
 ·rename_i h1 h2 h3
  have hp:=cv_pos hc
  have up:∀ i,1 ≤ i → i < r.c.length → (nth r.c (i - 1)).y < (nth r.c i).y:=fun i a b => by
   have:=fsE_all h3 i a (by omega)
   unfold sStep at this
   split at this
   ·cases this
   ·omega
  have lv:∀ i,1 ≤ i → i < 7 → nth (sLv r) (i - 1) ≤ nth (sLv r) i:=fun i a b => by
   have:=fsE_all h i a (by omega)
   unfold lStep at this
   split at this
   ·cases this
   ·omega
  have l1:=lv 1 (by omega) (by omega)
  have l2:=lv 2 (by omega) (by omega)
  have l3:=lv 3 (by omega) (by omega)
  have l4:=lv 4 (by omega) (by omega)
  have l5:=lv 5 (by omega) (by omega)
  have l6:=lv 6 (by omega) (by omega)
  exact ⟨hc,by omega,by omega,up,l1,l2,l3,l4,l5,l6⟩
 ·cases h
theorem sWr_in {r:Rs} (h:sChk r = 0) {l:Int} (h1:(nth r.c 0).x ≤ l) (h2:l ≤ (nth r.c (r.c.length - 1)).x):sWr r l = 0:=by
 have v:=sv_of h
 have hp:=cv_pos v.c
 have:=(cv_of v.c).x0 0 hp
 have:=v.top
 unfold sWr
 rw [if_neg (by omega),if_pos (by omega)]
def dCr (d:Dm):Int:=cval d.r.c d.r.t
def dDd (d:Dm):Int:=cval d.r.c d.r.d
theorem sWr_t {r:Rs} (h:sChk r = 0):sWr r r.t = 0:=by
 have v:=sv_of h
 have:=v.d;have:=v.l;have:=v.f;have:=v.s;have:=v.t
 exact sWr_in h (by omega) v.last
theorem sWr_d {r:Rs} (h:sChk r = 0):sWr r r.d = 0:=by
 have v:=sv_of h
 have:=v.last;have:=v.l;have:=v.f;have:=v.s;have:=v.t
 exact sWr_in h v.d (by omega)
def dfit (d:Dm) (s:Ds):Prop:=(0 ≤ s.v ∧ s.v ≤ dCr d) ∧ (0 ≤ s.rel ∧ s.rel ≤ 1073741824) ∧ s.u.length = d.u.length ∧ s.g.length = d.g.length ∧ allV d.u s.u ∧ allG d.g s.g
noncomputable instance {d:Dm} {s:Ds}:Decidable (dfit d s):=Classical.propDecidable _
noncomputable def dE (d:Dm) (s:Ds):Int:=if dChk d ≠ 0 then dChk d else if dfit d s then 0 else 3
structure Dv (d:Dm):Prop where
 r:sChk d.r = 0
 u:d.u.length ≤ 6
 g:d.g.length ≤ 8
 uv:∀ i,i < d.u.length → uChk (nth d.u i) = 0
 gv:∀ i,i < d.g.length → gChk (nth d.g i) = 0
 gr:1 ≤ d.gr ∧ d.gr ≤ 1073741824
theorem dv_of {d:Dm} (h:dChk d = 0):Dv d:=by
 unfold dChk at h
 split at h
 ·rename_i h1;exact absurd h h1
 split at h
 ·cases h
 split at h
 ·rename_i h1;exact absurd h h1
 split at h
 ·rename_i h1;exact absurd h h1
 split at h
 ·cases h
 rename_i h1 h2 h3 h4 h5
 have h3:uE d.u = 0:=Decidable.of_not_not h3
 have h4:gE d.g = 0:=Decidable.of_not_not h4
 exact ⟨Decidable.of_not_not h1,by omega,by omega,fun i hi => fsE_all h3 i (by omega) (by omega),fun i hi => fsE_all h4 i (by omega) (by omega),by omega⟩
theorem c_dam_crest {d:Dm} (h:sChk d.r = 0) (G:List GObj):Lim F 92 [dm d] G = some (i64 (dCr d),G) :=
 eq_of rfl rfl (by
  simp +contextual (disch:=omega) [-getElem?_pos,-List.length_eq_zero_iff,-Int.natCast_eq_zero,wrap64,v_dam_crest,c_curve_Value (cv_of (sChk_c h)),dCr])
theorem c_dam_fits {d:Dm} (h:Dv d) (s:Ds) (G:List GObj):Lim F 61 [dm d,dst s] G = some (.bool (decide (dfit d s)),G) :=
 eq_of rfl rfl (by
  obtain ⟨v,rel,su,sg⟩:=s
  generalize hW:decide (dfit d ⟨v,rel,su,sg⟩) = W
  have no:¬ dfit d ⟨v,rel,su,sg⟩ → W = false:=fun hn => by rw [← hW];simp [hn]
  unfold dfit at no
  simp only at no
  have hu6:=h.u
  have hg8:=h.g
  have hc:=c_dam_crest h.r
  by_cases h1:0 ≤ v ∧ v ≤ dCr d
  ·have a1:(decide (0 ≤ v) && decide (v ≤ dCr d)) = true:=by simp;omega
   have a2:(!decide (0 ≤ v) || !decide (v ≤ dCr d)) = false:=by simp;omega
   by_cases h2:0 ≤ rel ∧ rel ≤ 1073741824
   ·have b1:(decide (0 ≤ rel) && decide (rel ≤ 1073741824)) = true:=by simp;omega
    have b2:(!decide (0 ≤ rel) || !decide (rel ≤ 1073741824)) = false:=by simp;omega
    by_cases h3:su.length = d.u.length
    ·have c1:(su.length:Int) = d.u.length:=by omega
     by_cases h4:sg.length = d.g.length
     ·have d1:(sg.length:Int) = d.g.length:=by omega
      simp +contextual (disch:=omega) [-getElem?_pos,-List.length_eq_zero_iff,-Int.natCast_eq_zero,wrap64,v_dam_fits,hc,c_quantity_Within,a1,a2,b1,b2,c1,d1]
      refine go_loop (fun i:Nat => v_dam_fits_s0 (uns d.u) d.u.length i d.row [i64 v,i64 rel,sts su,gss sg] G) (fun i => i ≤ d.u.length ∧ ∀ j,j < i → validP (nth d.u j) (nth su j)) (fun i => d.u.length - i) 0 rfl (by simp) ⟨by omega,by omega⟩ ?_
      rintro i ⟨hi,hv⟩
      simp +contextual (disch:=omega) [-getElem?_pos,-List.length_eq_zero_iff,-Int.natCast_eq_zero,wrap64,v_dam_fits_b0]
      refine cnd_dec (fun h5 => ?_) (fun h5 => ?_)
      ·have h5:i < d.u.length:=by omega
       have h5':i < su.length:=by omega
       by_cases h6:validP (nth d.u i) (nth su i)
       ·simp +contextual (disch:=omega) [-getElem?_pos,-List.length_eq_zero_iff,-Int.natCast_eq_zero,wrap64,get_nth (l:=d.u),get_nth (l:=su),c_unit_Valid,c_r18_Valid,h6]
        refine rnd_next (i + 1) (by simp) ⟨by omega,fun j hj => ?_⟩ (by omega)
        rcases Nat.lt_or_ge j i with h7 | h7
        ·exact hv j h7
        ·rwa [show j = i by omega]
       ·simp +contextual (disch:=omega) [-getElem?_pos,-List.length_eq_zero_iff,-Int.natCast_eq_zero,wrap64,get_nth (l:=d.u),get_nth (l:=su),c_unit_Valid,c_r18_Valid,h6]
        exact no (fun h => h6 (h.2.2.2.2.1 i h5))
      ·obtain rfl:i = d.u.length:=by omega
       refine go_loop (fun i:Nat => v_dam_fits_s1 (gts d.g) d.g.length i [i64 v,i64 rel,sts su,gss sg] G) (fun i => i ≤ d.g.length ∧ ∀ j,j < i → gvP (nth d.g j) (nth sg j)) (fun i => d.g.length - i) 0 rfl (by simp) ⟨by omega,by omega⟩ ?_
       rintro i ⟨hi,hg⟩
       simp +contextual (disch:=omega) [-getElem?_pos,-List.length_eq_zero_iff,-Int.natCast_eq_zero,wrap64,v_dam_fits_b1]
       refine cnd_dec (fun h5 => ?_) (fun h5 => ?_)
       ·have h5:i < d.g.length:=by omega
        have h5':i < sg.length:=by omega
        by_cases h6:gvP (nth d.g i) (nth sg i)
        ·have h6':(!decide (0 ≤ (nth sg i).o) || !decide ((nth sg i).o ≤ (nth d.g i).most)) = false:=by simp;exact h6
         simp +contextual (disch:=omega) [-getElem?_pos,-List.length_eq_zero_iff,-Int.natCast_eq_zero,wrap64,get_nth (l:=d.g),get_nth (l:=sg),c_quantity_Within,c_r20_Valid,h6,h6']
         refine rnd_next (i + 1) (by simp) ⟨by omega,fun j hj => ?_⟩ (by omega)
         rcases Nat.lt_or_ge j i with h7 | h7
         ·exact hg j h7
         ·rwa [show j = i by omega]
        ·have h6':(!decide (0 ≤ (nth sg i).o) || !decide ((nth sg i).o ≤ (nth d.g i).most)) = true:=by
          have:¬ (0 ≤ (nth sg i).o ∧ (nth sg i).o ≤ (nth d.g i).most):=h6
          simp;omega
         simp +contextual (disch:=omega) [-getElem?_pos,-List.length_eq_zero_iff,-Int.natCast_eq_zero,wrap64,get_nth (l:=d.g),get_nth (l:=sg),c_quantity_Within,c_r20_Valid,h6,h6']
         exact no (fun h => h6 (h.2.2.2.2.2 i h5))
       ·obtain rfl:i = d.g.length:=by omega
        rw [← hW]
        have:dfit d ⟨v,rel,su,sg⟩:=⟨h1,h2,h3,h4,hv,hg⟩
        simp [this]
     ·have d1:¬ (sg.length:Int) = d.g.length:=by omega
      simp +contextual (disch:=omega) [-getElem?_pos,-List.length_eq_zero_iff,-Int.natCast_eq_zero,wrap64,v_dam_fits,hc,c_quantity_Within,a1,a2,b1,b2,c1,d1]
      exact no (fun h => h4 h.2.2.2.1)
    ·have c1:¬ (su.length:Int) = d.u.length:=by omega
     simp +contextual (disch:=omega) [-getElem?_pos,-List.length_eq_zero_iff,-Int.natCast_eq_zero,wrap64,v_dam_fits,hc,c_quantity_Within,a1,a2,b1,b2,c1]
     exact no (fun h => h3 h.2.2.1)
   ·have b1:(decide (0 ≤ rel) && decide (rel ≤ 1073741824)) = false:=by simp;omega
    have b2:(!decide (0 ≤ rel) || !decide (rel ≤ 1073741824)) = true:=by simp;omega
    by_cases c1:(su.length:Int) = d.u.length
    ·by_cases d1:(sg.length:Int) = d.g.length
     ·simp +contextual (disch:=omega) [-getElem?_pos,-List.length_eq_zero_iff,-Int.natCast_eq_zero,wrap64,v_dam_fits,hc,c_quantity_Within,a1,a2,b1,b2,c1,d1]
      exact no (fun h => h2 h.2.1)
     ·simp +contextual (disch:=omega) [-getElem?_pos,-List.length_eq_zero_iff,-Int.natCast_eq_zero,wrap64,v_dam_fits,hc,c_quantity_Within,a1,a2,b1,b2,c1,d1]
      exact no (fun h => h2 h.2.1)
    ·simp +contextual (disch:=omega) [-getElem?_pos,-List.length_eq_zero_iff,-Int.natCast_eq_zero,wrap64,v_dam_fits,hc,c_quantity_Within,a1,a2,b1,b2,c1]
     exact no (fun h => h2 h.2.1)
  ·have a1:(decide (0 ≤ v) && decide (v ≤ dCr d)) = false:=by simp;omega
   have a2:(!decide (0 ≤ v) || !decide (v ≤ dCr d)) = true:=by simp;omega
   by_cases h2:0 ≤ rel ∧ rel ≤ 1073741824
   ·have b1:(decide (0 ≤ rel) && decide (rel ≤ 1073741824)) = true:=by simp;omega
    have b2:(!decide (0 ≤ rel) || !decide (rel ≤ 1073741824)) = false:=by simp;omega
    by_cases c1:(su.length:Int) = d.u.length
    ·by_cases d1:(sg.length:Int) = d.g.length
     ·simp +contextual (disch:=omega) [-getElem?_pos,-List.length_eq_zero_iff,-Int.natCast_eq_zero,wrap64,v_dam_fits,hc,c_quantity_Within,a1,a2,b1,b2,c1,d1]
      exact no (fun h => h1 h.1)
     ·simp +contextual (disch:=omega) [-getElem?_pos,-List.length_eq_zero_iff,-Int.natCast_eq_zero,wrap64,v_dam_fits,hc,c_quantity_Within,a1,a2,b1,b2,c1,d1]
      exact no (fun h => h1 h.1)
    ·simp +contextual (disch:=omega) [-getElem?_pos,-List.length_eq_zero_iff,-Int.natCast_eq_zero,wrap64,v_dam_fits,hc,c_quantity_Within,a1,a2,b1,b2,c1]
     exact no (fun h => h1 h.1)
   ·have b1:(decide (0 ≤ rel) && decide (rel ≤ 1073741824)) = false:=by simp;omega
    have b2:(!decide (0 ≤ rel) || !decide (rel ≤ 1073741824)) = true:=by simp;omega
    by_cases c1:(su.length:Int) = d.u.length
    ·by_cases d1:(sg.length:Int) = d.g.length
     ·simp +contextual (disch:=omega) [-getElem?_pos,-List.length_eq_zero_iff,-Int.natCast_eq_zero,wrap64,v_dam_fits,hc,c_quantity_Within,a1,a2,b1,b2,c1,d1]
      exact no (fun h => h1 h.1)
     ·simp +contextual (disch:=omega) [-getElem?_pos,-List.length_eq_zero_iff,-Int.natCast_eq_zero,wrap64,v_dam_fits,hc,c_quantity_Within,a1,a2,b1,b2,c1,d1]
      exact no (fun h => h1 h.1)
    ·simp +contextual (disch:=omega) [-getElem?_pos,-List.length_eq_zero_iff,-Int.natCast_eq_zero,wrap64,v_dam_fits,hc,c_quantity_Within,a1,a2,b1,b2,c1]
     exact no (fun h => h1 h.1))
theorem c_r22_Valid_yes {d:Dm} (hd:dChk d = 0) (s:Ds) (G:List GObj):Lim F 13 [dm d,dst s] G = some (.bool (decide (dfit d s)),G):=by
  have h:=dv_of hd
  exact eq_of rfl rfl (by
   obtain ⟨v,rel,su,sg⟩:=s
   generalize hW:decide (dfit d ⟨v,rel,su,sg⟩) = W
   have no:¬ dfit d ⟨v,rel,su,sg⟩ → W = false:=fun hn => by rw [← hW];simp [hn]
   unfold dfit at no
   simp only at no
   have hu6:=h.u
   have hg8:=h.g
   have hc:=fun G => c_r22_Check d G
   have hV:=fun G => c_r03_Volume d.r d.r.t G
   have hwt:=sWr_t h.r
   have hcr:cval d.r.c d.r.t = dCr d:=rfl
   by_cases h1:0 ≤ v ∧ v ≤ dCr d
   ·have a1:(decide (0 ≤ v) && decide (v ≤ dCr d)) = true:=by simp;omega
    have a2:(!decide (0 ≤ v) || !decide (v ≤ dCr d)) = false:=by simp;omega
    by_cases h2:0 ≤ rel ∧ rel ≤ 1073741824
    ·have b1:(decide (0 ≤ rel) && decide (rel ≤ 1073741824)) = true:=by simp;omega
     have b2:(!decide (0 ≤ rel) || !decide (rel ≤ 1073741824)) = false:=by simp;omega
     by_cases h3:su.length = d.u.length
     ·have c1:(su.length:Int) = d.u.length:=by omega
      by_cases h4:sg.length = d.g.length
      ·have d1:(sg.length:Int) = d.g.length:=by omega
       simp +contextual (disch:=omega) [-getElem?_pos,-List.length_eq_zero_iff,-Int.natCast_eq_zero,wrap64,v_r22_Valid,hc,hd,hV,hwt,hcr,c_r01_In,a1,a2,b1,b2,c1,d1]
       refine go_loop (fun i:Nat => v_r22_Valid_s0 (uns d.u) d.u.length i d.row [i64 v,i64 rel,sts su,gss sg] G) (fun i => i ≤ d.u.length ∧ ∀ j,j < i → validP (nth d.u j) (nth su j)) (fun i => d.u.length - i) 0 rfl (by simp) ⟨by omega,by omega⟩ ?_
       rintro i ⟨hi,hv⟩
       simp +contextual (disch:=omega) [-getElem?_pos,-List.length_eq_zero_iff,-Int.natCast_eq_zero,wrap64,v_r22_Valid_b0]
       refine cnd_dec (fun h5 => ?_) (fun h5 => ?_)
       ·have h5:i < d.u.length:=by omega
        have h5':i < su.length:=by omega
        by_cases h6:validP (nth d.u i) (nth su i)
        ·simp +contextual (disch:=omega) [-getElem?_pos,-List.length_eq_zero_iff,-Int.natCast_eq_zero,wrap64,get_nth (l:=d.u),get_nth (l:=su),c_unit_Valid,c_r18_Valid,h6]
         refine rnd_next (i + 1) (by simp) ⟨by omega,fun j hj => ?_⟩ (by omega)
         rcases Nat.lt_or_ge j i with h7 | h7
         ·exact hv j h7
         ·rwa [show j = i by omega]
        ·simp +contextual (disch:=omega) [-getElem?_pos,-List.length_eq_zero_iff,-Int.natCast_eq_zero,wrap64,get_nth (l:=d.u),get_nth (l:=su),c_unit_Valid,c_r18_Valid,h6]
         exact no (fun h => h6 (h.2.2.2.2.1 i h5))
       ·obtain rfl:i = d.u.length:=by omega
        refine go_loop (fun i:Nat => v_r22_Valid_s1 (gts d.g) d.g.length i [i64 v,i64 rel,sts su,gss sg] G) (fun i => i ≤ d.g.length ∧ ∀ j,j < i → gvP (nth d.g j) (nth sg j)) (fun i => d.g.length - i) 0 rfl (by simp) ⟨by omega,by omega⟩ ?_
        rintro i ⟨hi,hg⟩
        simp +contextual (disch:=omega) [-getElem?_pos,-List.length_eq_zero_iff,-Int.natCast_eq_zero,wrap64,v_r22_Valid_b1]
        refine cnd_dec (fun h5 => ?_) (fun h5 => ?_)
        ·have h5:i < d.g.length:=by omega
         have h5':i < sg.length:=by omega
         by_cases h6:gvP (nth d.g i) (nth sg i)
         ·have h6':(!decide (0 ≤ (nth sg i).o) || !decide ((nth sg i).o ≤ (nth d.g i).most)) = false:=by simp;exact h6
          simp +contextual (disch:=omega) [-getElem?_pos,-List.length_eq_zero_iff,-Int.natCast_eq_zero,wrap64,get_nth (l:=d.g),get_nth (l:=sg),c_quantity_Within,c_r20_Valid,h6,h6']
          refine rnd_next (i + 1) (by simp) ⟨by omega,fun j hj => ?_⟩ (by omega)
          rcases Nat.lt_or_ge j i with h7 | h7
          ·exact hg j h7
          ·rwa [show j = i by omega]
         ·have h6':(!decide (0 ≤ (nth sg i).o) || !decide ((nth sg i).o ≤ (nth d.g i).most)) = true:=by
           have:¬ (0 ≤ (nth sg i).o ∧ (nth sg i).o ≤ (nth d.g i).most):=h6
           simp;omega
          simp +contextual (disch:=omega) [-getElem?_pos,-List.length_eq_zero_iff,-Int.natCast_eq_zero,wrap64,get_nth (l:=d.g),get_nth (l:=sg),c_quantity_Within,c_r20_Valid,h6,h6']
          exact no (fun h => h6 (h.2.2.2.2.2 i h5))
        ·obtain rfl:i = d.g.length:=by omega
         rw [← hW]
         have:dfit d ⟨v,rel,su,sg⟩:=⟨h1,h2,h3,h4,hv,hg⟩
         simp [this]
      ·have d1:¬ (sg.length:Int) = d.g.length:=by omega
       simp +contextual (disch:=omega) [-getElem?_pos,-List.length_eq_zero_iff,-Int.natCast_eq_zero,wrap64,v_r22_Valid,hc,hd,hV,hwt,hcr,c_r01_In,a1,a2,b1,b2,c1,d1]
       exact no (fun h => h4 h.2.2.2.1)
     ·have c1:¬ (su.length:Int) = d.u.length:=by omega
      simp +contextual (disch:=omega) [-getElem?_pos,-List.length_eq_zero_iff,-Int.natCast_eq_zero,wrap64,v_r22_Valid,hc,hd,hV,hwt,hcr,c_r01_In,a1,a2,b1,b2,c1]
      exact no (fun h => h3 h.2.2.1)
    ·have b1:(decide (0 ≤ rel) && decide (rel ≤ 1073741824)) = false:=by simp;omega
     have b2:(!decide (0 ≤ rel) || !decide (rel ≤ 1073741824)) = true:=by simp;omega
     by_cases c1:(su.length:Int) = d.u.length
     ·by_cases d1:(sg.length:Int) = d.g.length
      ·simp +contextual (disch:=omega) [-getElem?_pos,-List.length_eq_zero_iff,-Int.natCast_eq_zero,wrap64,v_r22_Valid,hc,hd,hV,hwt,hcr,c_r01_In,a1,a2,b1,b2,c1,d1]
       exact no (fun h => h2 h.2.1)
      ·simp +contextual (disch:=omega) [-getElem?_pos,-List.length_eq_zero_iff,-Int.natCast_eq_zero,wrap64,v_r22_Valid,hc,hd,hV,hwt,hcr,c_r01_In,a1,a2,b1,b2,c1,d1]
       exact no (fun h => h2 h.2.1)
     ·simp +contextual (disch:=omega) [-getElem?_pos,-List.length_eq_zero_iff,-Int.natCast_eq_zero,wrap64,v_r22_Valid,hc,hd,hV,hwt,hcr,c_r01_In,a1,a2,b1,b2,c1]
      exact no (fun h => h2 h.2.1)
   ·have a1:(decide (0 ≤ v) && decide (v ≤ dCr d)) = false:=by simp;omega
    have a2:(!decide (0 ≤ v) || !decide (v ≤ dCr d)) = true:=by simp;omega
    by_cases h2:0 ≤ rel ∧ rel ≤ 1073741824
    ·have b1:(decide (0 ≤ rel) && decide (rel ≤ 1073741824)) = true:=by simp;omega
     have b2:(!decide (0 ≤ rel) || !decide (rel ≤ 1073741824)) = false:=by simp;omega
     by_cases c1:(su.length:Int) = d.u.length
     ·by_cases d1:(sg.length:Int) = d.g.length
      ·simp +contextual (disch:=omega) [-getElem?_pos,-List.length_eq_zero_iff,-Int.natCast_eq_zero,wrap64,v_r22_Valid,hc,hd,hV,hwt,hcr,c_r01_In,a1,a2,b1,b2,c1,d1]
       exact no (fun h => h1 h.1)
      ·simp +contextual (disch:=omega) [-getElem?_pos,-List.length_eq_zero_iff,-Int.natCast_eq_zero,wrap64,v_r22_Valid,hc,hd,hV,hwt,hcr,c_r01_In,a1,a2,b1,b2,c1,d1]
       exact no (fun h => h1 h.1)
     ·simp +contextual (disch:=omega) [-getElem?_pos,-List.length_eq_zero_iff,-Int.natCast_eq_zero,wrap64,v_r22_Valid,hc,hd,hV,hwt,hcr,c_r01_In,a1,a2,b1,b2,c1]
      exact no (fun h => h1 h.1)
    ·have b1:(decide (0 ≤ rel) && decide (rel ≤ 1073741824)) = false:=by simp;omega
     have b2:(!decide (0 ≤ rel) || !decide (rel ≤ 1073741824)) = true:=by simp;omega
     by_cases c1:(su.length:Int) = d.u.length
     ·by_cases d1:(sg.length:Int) = d.g.length
      ·simp +contextual (disch:=omega) [-getElem?_pos,-List.length_eq_zero_iff,-Int.natCast_eq_zero,wrap64,v_r22_Valid,hc,hd,hV,hwt,hcr,c_r01_In,a1,a2,b1,b2,c1,d1]
       exact no (fun h => h1 h.1)
      ·simp +contextual (disch:=omega) [-getElem?_pos,-List.length_eq_zero_iff,-Int.natCast_eq_zero,wrap64,v_r22_Valid,hc,hd,hV,hwt,hcr,c_r01_In,a1,a2,b1,b2,c1,d1]
       exact no (fun h => h1 h.1)
     ·simp +contextual (disch:=omega) [-getElem?_pos,-List.length_eq_zero_iff,-Int.natCast_eq_zero,wrap64,v_r22_Valid,hc,hd,hV,hwt,hcr,c_r01_In,a1,a2,b1,b2,c1]
      exact no (fun h => h1 h.1))
theorem c_r22_Valid (d:Dm) (s:Ds) (G:List GObj):Lim F 13 [dm d,dst s] G = some (.bool (decide (dChk d = 0 ∧ dfit d s)),G):=by
 by_cases hd:dChk d = 0
 ·rw [show decide (dChk d = 0 ∧ dfit d s) = decide (dfit d s) by simp [hd]]
  exact c_r22_Valid_yes hd s G
 ·rw [show decide (dChk d = 0 ∧ dfit d s) = false by simp [hd]]
  have hC:=fun G => c_r22_Check d G
  generalize dChk d = x at hd hC
  obtain ⟨v,rel,su,sg⟩:=s
  exact eq_of rfl rfl (by
   simp +contextual (disch:=omega) [-getElem?_pos,-List.length_eq_zero_iff,-Int.natCast_eq_zero,wrap64,v_r22_Valid,hC,hd])
theorem c_dam_asked (d:Dm) (s:Ds) (G:List GObj):Lim F 53 [dm d,dst s] G = some (i64 (dE d s),G) :=
 eq_of rfl rfl (by
  by_cases hd:dChk d = 0
  ·by_cases hf:dfit d s
   ·simp +contextual (disch:=omega) [-getElem?_pos,-List.length_eq_zero_iff,-Int.natCast_eq_zero,wrap64,v_dam_asked,c_dam_Check,hd,c_dam_fits (dv_of hd),hf,dE]
   ·simp +contextual (disch:=omega) [-getElem?_pos,-List.length_eq_zero_iff,-Int.natCast_eq_zero,wrap64,v_dam_asked,c_dam_Check,hd,c_dam_fits (dv_of hd),hf,dE]
  ·simp +contextual (disch:=omega) [-getElem?_pos,-List.length_eq_zero_iff,-Int.natCast_eq_zero,wrap64,v_dam_asked,c_dam_Check,hd,dE])
theorem c_r22_wrong (d:Dm) (s:Ds) (G:List GObj):Lim F 55 [dm d,dst s] G = some (i64 (dE d s),G) :=
 eq_of rfl rfl (by
  by_cases hd:dChk d = 0
  ·by_cases hf:dfit d s
   ·simp +contextual (disch:=omega) [-getElem?_pos,-List.length_eq_zero_iff,-Int.natCast_eq_zero,wrap64,v_r22_wrong,c_r22_Check,hd,c_r22_Valid,hf,dE]
   ·simp +contextual (disch:=omega) [-getElem?_pos,-List.length_eq_zero_iff,-Int.natCast_eq_zero,wrap64,v_r22_wrong,c_r22_Check,hd,c_r22_Valid,hf,dE]
  ·simp +contextual (disch:=omega) [-getElem?_pos,-List.length_eq_zero_iff,-Int.natCast_eq_zero,wrap64,v_r22_wrong,c_r22_Check,hd,dE])
theorem dE_zero {d:Dm} {s:Ds} (h:dE d s = 0):Dv d ∧ dfit d s:=by
 unfold dE at h
 split at h
 ·rename_i h1;exact absurd h h1
 split at h
 ·rename_i h1 h2;exact ⟨dv_of (Decidable.of_not_not h1),h2⟩
 ·cases h
noncomputable def lvl (d:Dm) (s:Ds):Int:=if dE d s = 0 then hgt d.r s.v else 0
theorem c_dam_Level (d:Dm) (s:Ds) (G:List GObj):Lim F 20 [dm d,dst s] G = some (.tuple [i64 (lvl d s),i64 (dE d s)],G) :=
 eq_of rfl rfl (by
  by_cases hd:dE d s = 0
  ·simp +contextual (disch:=omega) [-getElem?_pos,-List.length_eq_zero_iff,-Int.natCast_eq_zero,wrap64,v_dam_Level,c_dam_asked,hd,c_storage_Height (dE_zero hd).1.r,lvl]
  ·simp +contextual (disch:=omega) [-getElem?_pos,-List.length_eq_zero_iff,-Int.natCast_eq_zero,wrap64,v_dam_Level,c_dam_asked,hd,lvl])
end Go.Proofs.YtfjdfnegookkcaaGreat
namespace Go.Proofs.YtfjdfnegookkcaaGreat
set_option linter.all false
open Go.Vm
attribute [local simp] cond_yes cond_yes2 int_beq int_bne
theorem nextE_next {u:Un} {s:Us} (hv:validP u s) (q:Int):nextE u s q = if mayP u s q then 0 else 15:=by
 unfold nextE
 rw [if_neg (fun h => h hv.1),if_neg (fun h => h hv)]
 by_cases h:mayP u s q
 ·rw [if_pos h,if_neg (fun g => g h)]
 ·rw [if_neg h,if_pos h]
theorem c_unit_Next {u:Un} {s:Us} (hv:validP u s) (q:Int) (G:List GObj):Lim F 101 [un u,us s,i64 q] G =
  some (.tuple (if mayP u s q then [us (nextS s q),.bool (decide (s.flow = 0) && decide (0 < q)),i64 0] else [us ⟨0,0,false⟩,.bool false,i64 15]),G) :=
 eq_of rfl rfl (by
  have hc:=hv.1
  have h1:=hv.2.1
  have hf:0 ≤ s.flow:=by
   rcases hv.2.2 with h | ⟨_,h⟩
   ·omega
   ·have:=runs_pos hc h;omega
  have hm1:min (s.since + 1) 1000 = min 1000 (s.since + 1):=by omega
  by_cases hm:mayP u s q
  ·simp +contextual (disch:=omega) [-getElem?_pos,-List.length_eq_zero_iff,-Int.natCast_eq_zero,wrap64,v_unit_Next,c_unit_Check,c_unit_fits hc,c_unit_may hv,hc,hv,hm]
   refine cnd_bool (fun h => ?_) (fun h => ?_)
   ·have h':¬ (decide (0 < s.flow) = decide (0 < q)):=fun e => by rw [e] at h;simp at h
    unfold nextS
    rw [if_neg h']
    exact ⟨⟨rfl,rfl,rfl⟩,Bool.and_comm _ _⟩
   ·have h':decide (0 < s.flow) = decide (0 < q):=by
     cases h1:decide (0 < s.flow) <;> cases h2:decide (0 < q) <;> rw [h1,h2] at h <;> first | rfl | cases h
    unfold nextS
    rw [if_pos h']
    exact ⟨⟨rfl,hm1,rfl⟩,Bool.and_comm _ _⟩
  ·simp +contextual (disch:=omega) [-getElem?_pos,-List.length_eq_zero_iff,-Int.natCast_eq_zero,wrap64,v_unit_Next,c_unit_Check,c_unit_fits hc,c_unit_may hv,hc,hv,hm])
structure Dr where
 inf:Int
 los:Int
 tur:Int
 spi:Int
 ovr:Int
 pow:Int
 sta:Int
 deriving Inhabited
abbrev Dr.row (r:Dr):List V:=[i64 r.inf,i64 r.los,i64 r.tur,i64 r.spi,i64 r.ovr,i64 r.pow,i64 r.sta]
abbrev dr (r:Dr):V:=.agg r.row
abbrev wk (d:Dm) (s:Ds) (nv nr:Int) (nu:List Us) (ng:V) (r:Dr) (rel left lv:Int):GObj:=.cells
 [pts d.r.c,i64 d.r.d,i64 d.r.l,i64 d.r.f,i64 d.r.s,i64 d.r.t,uns d.u,gts d.g,i64 d.gr,i64 s.v,i64 s.rel,sts s.u,gss s.g,
  i64 nv,i64 nr,.oslice 3 (nu.map Us.row),ng,i64 r.inf,i64 r.los,i64 r.tur,i64 r.spi,i64 r.ovr,i64 r.pow,i64 r.sta,i64 rel,i64 left,i64 lv]
def fre (d:Dm) (left:Int):Int:=max (left - dDd d) 0
theorem vol_range {r:Rs} (h:sChk r = 0) (l:Int):0 ≤ cval r.c l ∧ cval r.c l ≤ 1099511627776:=by
 have hc:=cv_of (sChk_c h)
 have h1:=cval_range hc l
 have hp:=cv_pos (sChk_c h)
 have h2:=hc.y0 0 hp
 have h3:=hc.y0 (r.c.length - 1) (by omega)
 omega
theorem dDd_range {d:Dm} (h:sChk d.r = 0):0 ≤ dDd d ∧ dDd d ≤ 1099511627776:=vol_range h _
theorem dCr_range {d:Dm} (h:sChk d.r = 0):0 ≤ dCr d ∧ dCr d ≤ 1099511627776:=vol_range h _
theorem c_free {d:Dm} (h:sChk d.r = 0) {s:Ds} {nv nr:Int} {nu:List Us} {ng:V} {r:Dr} {rel left lv:Int} (hl:0 ≤ left ∧ left ≤ 4611686018427387904) :
  Lim F 99 [.gptr 0 0] [wk d s nv nr nu ng r rel left lv] = some (i64 (fre d left),[wk d s nv nr nu ng r rel left lv]) :=
 eq_of rfl rfl (by
  generalize hW:fre d left = W
  have hD:cval d.r.c d.r.d = dDd d:=rfl
  have h0:=dDd_range h
  simp +contextual (disch:=omega) [-getElem?_pos,-List.length_eq_zero_iff,-Int.natCast_eq_zero,wrap64,v_dam_work_free,c_curve_Value (cv_of (sChk_c h)),hD]
  exact hW)
theorem feas_nth {g:Int}:∀ {us:List Un} {ss:List Us} {F:List Int},feas g us ss F → ∀ i,i < us.length → nth F i ∈ chs (nth us i) (nth ss i) g
 | [],[],[],_ => fun i hi => by simp at hi
 | u :: us,s :: ss,q :: F,h => fun i hi => by
   cases i with
   | zero => exact h.1
   | succ i => exact feas_nth h.2 i (by simpa using hi)
 | [],_ :: _,_,h => h.elim
 | [],[],_ :: _,h => h.elim
 | _ :: _,[],_,h => h.elim
 | _ :: _,_ :: _,[],h => h.elim
theorem bestE_feas {us:List Un} {ss:List Us} {g release:Int} (h:bestE us ss g release = 0):feas g us ss (bestL us ss g release) ∧ (bestL us ss g release).sum ≤ release:=by
 unfold bestE at h
 split at h
 ·rename_i h1;exact absurd h h1
 split at h
 ·cases h
 rename_i h1 h2
 have h1:=Decidable.of_not_not h1
 obtain ⟨h3,h4,_⟩:=st0_of h1
 have hb:=best_of h3 h4.1
 unfold bestL
 rw [if_neg (fun g => g h1)]
 cases hr:recF (lls us ss g) release with
 | none => exact absurd hr h2
 | some E =>
   rw [hr] at hb
   exact ⟨hb.feas,hb.sum⟩
noncomputable def flw (d:Dm) (s:Ds) (m:Int) (i:Nat):Int:=if bestE d.u s.u d.gr m = 0 then nth (bestL d.u s.u d.gr m) i else 0
theorem flw_can {d:Dm} {s:Ds} {m:Int} {i:Nat} (hi:i < d.u.length):flw d s m i = 0 ∨ canP (nth d.u i) (nth s.u i) (flw d s m i):=by
 unfold flw
 split
 ·rename_i h
  exact .inr (mem_chs.1 (feas_nth (bestE_feas h).1 i hi)).2
 ·exact .inl rfl
theorem flw_range {d:Dm} {s:Ds} {m:Int} {i:Nat} (hi:i < d.u.length):0 ≤ flw d s m i ∧ flw d s m i ≤ 1073741824:=by
 rcases flw_can (s:=s) (m:=m) hi with h | h
 ·omega
 ·exact can_range h
noncomputable def nxu (u:Un) (s:Us) (q:Int):Us:=if mayP u s q then nextS s q else ⟨0,1,s.out⟩
def ssum (f:Nat → Int):Nat → Int
 | 0 => 0
 | i + 1 => ssum f i + f i
theorem ssum_range {f:Nat → Int} {n:Nat} (h:∀ i,i < n → 0 ≤ f i ∧ f i ≤ 1073741824):∀ i,i ≤ n → 0 ≤ ssum f i ∧ ssum f i ≤ 1073741824 * i:=by
 intro i
 induction i with
 | zero => intro _;simp [ssum]
 | succ i ih => intro hi;have:=ih (by omega);have:=h i (by omega);simp only [ssum];omega
noncomputable def pww (d:Dm) (s:Ds) (m:Int) (i:Nat):Int:=pow (nth d.u i) (flw d s m i)
noncomputable def sta (d:Dm) (s:Ds) (m:Int) (i:Nat):Int:=stt (nth s.u i) (flw d s m i)
noncomputable def nus (d:Dm) (s:Ds) (m:Int) (n:Nat):List Us:=(List.range n).map fun i => nxu (nth d.u i) (nth s.u i) (flw d s m i)
theorem nus_len {d:Dm} {s:Ds} {m:Int} {n:Nat}:(nus d s m n).length = n:=by simp [nus]
theorem nus_succ {d:Dm} {s:Ds} {m:Int} {n:Nat}:nus d s m (n + 1) = nus d s m n ++ [nxu (nth d.u n) (nth s.u n) (flw d s m n)]:=by simp [nus,List.range_succ]
def mst (d:Dm) (rel left:Int):Int:=min (min rel (fre d left)) (200 * d.gr)
set_option maxHeartbeats 1000000 in
theorem c_turbines {d:Dm} (h:Dv d) {s:Ds} (hs:dfit d s) {nv nr inf los spi ovr rel left lv:Int} {ng:V} (hl:0 ≤ left ∧ left ≤ 4611686018427387904) (hr:0 ≤ rel ∧ rel ≤ 1073741824) :
  Lim F 76 [.gptr 0 0] [wk d s nv nr [] ng ⟨inf,los,0,spi,ovr,0,0⟩ rel left lv] =
   some (.tuple [],[wk d s nv nr (nus d s (mst d rel left) d.u.length) ng ⟨inf,los,ssum (flw d s (mst d rel left)) d.u.length,spi,ovr,ssum (pww d s (mst d rel left)) d.u.length,ssum (sta d s (mst d rel left)) d.u.length⟩ rel left lv]) :=
 eq_of rfl rfl (by
  obtain ⟨G',hb⟩:=c_dispatch_Best d.u s.u d.gr (mst d rel left)
  have hgr:=h.gr
  have hm3:min (min rel (fre d left)) (200 * d.gr) = mst d rel left:=rfl
  have hu6:=h.u
  have hul:=hs.2.2.1
  have hbl:bestE d.u s.u d.gr (mst d rel left) = 0 → (bestL d.u s.u d.gr (mst d rel left)).length = d.u.length:=fun he => (feas_len (bestE_feas he).1).1
  generalize hM:mst d rel left = M at hb hm3 hbl
  simp +contextual (disch:=omega) [-getElem?_pos,-List.length_eq_zero_iff,-Int.natCast_eq_zero,wrap64,v_dam_work_turbines,c_free h.r,hm3,hb]
  refine go_loop (fun i:Nat => v_dam_work_turbines_s0 (.gptr 0 0) (.slice none 1 ((bestL d.u s.u d.gr M).map fun n => [i64 n])) (bestE d.u s.u d.gr M) (uns d.u) d.u.length i
   [wk d s nv nr (nus d s M i) ng ⟨inf,los,ssum (flw d s M) i,spi,ovr,ssum (pww d s M) i,ssum (sta d s M) i⟩ rel left lv])
   (fun i => i ≤ d.u.length) (fun i => d.u.length - i) 0 rfl (by simp [nus,ssum]) (by omega) ?_
  intro i hi
  have hnl:=nus_len (d:=d) (s:=s) (m:=M) (n:=i)
  have s1:=ssum_range (f:=flw d s M) (n:=d.u.length) (fun i hi => flw_range hi) i hi
  have s2:=ssum_range (f:=pww d s M) (n:=d.u.length) (fun i hi => pow_range) i hi
  have s3:=ssum_range (f:=sta d s M) (n:=d.u.length) (fun i hi => by have:=stt_range (s:=nth s.u i) (q:=flw d s M i);unfold sta;omega) i hi
  simp +contextual (disch:=omega) [-getElem?_pos,-List.length_eq_zero_iff,-Int.natCast_eq_zero,wrap64,v_dam_work_turbines_b0]
  refine cnd_dec (fun h5 => ?_) (fun h5 => ?_)
  ·have h5:i < d.u.length:=by omega
   have h5':i < s.u.length:=by omega
   have hv:validP (nth d.u i) (nth s.u i):=hs.2.2.2.2.1 i h5
   have hpr:=pow_range (u:=nth d.u i) (q:=flw d s M i)
   have hfr:=flw_range (s:=s) (m:=M) h5
   by_cases he:bestE d.u s.u d.gr M = 0
   ·have hbl:=hbl he
    have hfl:nth (bestL d.u s.u d.gr M) i = flw d s M i:=by simp [flw,he]
    have hm:mayP (nth d.u i) (nth s.u i) (flw d s M i):=by
     have:=mem_chs.1 (feas_nth (bestE_feas he).1 i h5)
     rw [hfl] at this
     exact this.2.2
    have hN:=c_unit_Next hv (flw d s M i) []
    rw [if_pos hm] at hN
    have hP:=c_unit_Power (nth d.u i) (flw d s M i) []
    generalize hq:flw d s M i = q at *
    generalize hp:pow (nth d.u i) q = p at *
    simp (config:={ maxSteps:=2000000 }) +contextual (disch:=omega) [-getElem?_pos,-List.length_eq_zero_iff,-Int.natCast_eq_zero,wrap64,get_nth (l:=d.u),get_nth (l:=s.u),get_int (l:=bestL d.u s.u d.gr M),he,hfl,hN,hP,hnl]
    have hx:nxu (nth d.u i) (nth s.u i) q = nextS (nth s.u i) q:=by simp [nxu,hm]
    refine cnd_bool (fun h6 => ?_) (fun h6 => ?_)
    ·have h6':sta d s M i = 1:=by
      simp at h6
      simp [sta,stt,hq,h6]
     refine rnd_next (i + 1) (by simp [nus_succ,ssum,pww,hq,hp,h6',hx]) (by omega) (by omega)
    ·have h6':sta d s M i = 0:=by
      have h7:¬ (0 < q ∧ (nth s.u i).flow = 0):=fun h => by rw [decide_eq_true h.1,decide_eq_true h.2] at h6;cases h6
      simp only [sta,stt,hq,if_neg h7]
     refine rnd_next (i + 1) (by simp [nus_succ,ssum,pww,hq,hp,h6',hx]) (by omega) (by omega)
   ·have hq:flw d s M i = 0:=by simp [flw,he]
    have hp:pow (nth d.u i) 0 = 0:=by simp [pow]
    have h6':sta d s M i = 0:=by simp [sta,stt,hq]
    have hN:=c_unit_Next hv 0 []
    have hP:=c_unit_Power (nth d.u i) 0 []
    rw [hp] at hP
    by_cases hm:mayP (nth d.u i) (nth s.u i) 0
    ·rw [if_pos hm] at hN
     have hx:nxu (nth d.u i) (nth s.u i) 0 = nextS (nth s.u i) 0:=by simp [nxu,hm]
     simp only [Int.lt_irrefl,decide_false,Bool.and_false] at hN
     simp (config:={ maxSteps:=2000000 }) +contextual (disch:=omega) [-getElem?_pos,-List.length_eq_zero_iff,-Int.natCast_eq_zero,wrap64,get_nth (l:=d.u),get_nth (l:=s.u),he,hN,hP,hnl]
     refine rnd_next (i + 1) (by simp [nus_succ,ssum,pww,hq,hp,h6',hx]) (by omega) (by omega)
    ·rw [if_neg hm] at hN
     have hx:nxu (nth d.u i) (nth s.u i) 0 = ⟨0,1,(nth s.u i).out⟩:=by simp [nxu,hm]
     simp (config:={ maxSteps:=2000000 }) +contextual (disch:=omega) [-getElem?_pos,-List.length_eq_zero_iff,-Int.natCast_eq_zero,wrap64,get_nth (l:=d.u),get_nth (l:=s.u),he,hN,hP,hnl]
     refine rnd_next (i + 1) (by simp [nus_succ,ssum,pww,hq,hp,h6',hx]) (by omega) (by omega)
  ·obtain rfl:i = d.u.length:=by omega
   simp)
end Go.Proofs.YtfjdfnegookkcaaGreat
namespace Go.Proofs.YtfjdfnegookkcaaGreat
set_option linter.all false
open Go.Vm
attribute [local simp] cond_yes cond_yes2 int_beq int_bne
theorem setF_range (g:List Gt) (s:List Gs) (lv w:Int):0 ≤ setF g s lv w ∧ setF g s lv w ≤ 17179869184:=by
 unfold setF
 split
 ·rename_i h
  unfold setE at h
  split at h
  ·rename_i h1;exact absurd h h1
  ·rename_i h1
   obtain ⟨h1,h2,h3,h4,h5⟩:=aE_zero (Decidable.of_not_not h1)
   have:=bs_bound (lv:=lv) (w:=w) h2 h1 h3 h4 (i:=g.length) (Nat.le_refl _)
   omega
 ·omega
def wnt (d:Dm) (rel left t:Int):Int:=min rel (fre d left) - t
noncomputable def spl (d:Dm) (s:Ds) (rel left lv t:Int):Int:=min (setF d.g s.g lv (wnt d rel left t)) (fre d left - t)
theorem c_gates {d:Dm} (h:Dv d) {s:Ds} {nv nr inf los tur spi ovr pw st rel left lv:Int} {nu:List Us} {ng:V} (hl:0 ≤ left ∧ left ≤ 4611686018427387904) (hr:0 ≤ rel ∧ rel ≤ 1073741824) (ht:0 ≤ tur ∧ tur ≤ 1099511627776) :
  Lim F 75 [.gptr 0 0] [wk d s nv nr nu ng ⟨inf,los,tur,spi,ovr,pw,st⟩ rel left lv] =
   some (.tuple [],[wk d s nv nr nu (.slice none 2 ((setS d.g s.g lv (wnt d rel left tur)).map Gs.row)) ⟨inf,los,tur,spl d s rel left lv tur,ovr,pw,st⟩ rel left lv]) :=
 eq_of rfl rfl (by
  obtain ⟨G',hb⟩:=c_gate_Set d.g s.g lv (wnt d rel left tur)
  have hF:=setF_range d.g s.g lv (wnt d rel left tur)
  have hf:0 ≤ fre d left ∧ fre d left ≤ 4611686018427387904:=by
   have:=dDd_range h.r
   unfold fre;omega
  have hW:min rel (fre d left) - tur = wnt d rel left tur:=rfl
  have hS:min (setF d.g s.g lv (wnt d rel left tur)) (fre d left - tur) = spl d s rel left lv tur:=rfl
  have hf2:=c_free h.r (s:=s) (nv:=nv) (nr:=nr) (nu:=nu) (ng:=.slice none 2 ((setS d.g s.g lv (wnt d rel left tur)).map Gs.row)) (r:=⟨inf,los,tur,spi,ovr,pw,st⟩) (rel:=rel) (left:=left) (lv:=lv) hl
  generalize spl d s rel left lv tur = S at hS
  generalize wnt d rel left tur = W at hS hF hb hW hf2
  simp +contextual (disch:=omega) [-getElem?_pos,-List.length_eq_zero_iff,-Int.natCast_eq_zero,wrap64,v_dam_work_gates,c_free h.r,hW,hb,hS,hf2])
theorem c_over {d:Dm} (h:Dv d) {s:Ds} {nv nr inf los tur spi ovr pw st rel left lv:Int} {nu:List Us} {ng:V} (hl:0 ≤ left ∧ left ≤ 4611686018427387904) (ht:0 ≤ tur ∧ tur ≤ 1099511627776) (hsp:-1099511627776 ≤ spi ∧ spi ≤ 1099511627776) :
  Lim F 74 [.gptr 0 0] [wk d s nv nr nu ng ⟨inf,los,tur,spi,ovr,pw,st⟩ rel left lv] =
   some (.tuple [],[wk d s (left - (tur + spi) - max (left - (tur + spi) - dCr d) 0) (min (tur + spi) 1073741824) nu ng ⟨inf,los,tur,spi,max (left - (tur + spi) - dCr d) 0,pw,st⟩ rel (left - (tur + spi)) lv]) :=
 eq_of rfl rfl (by
  have hC:=dCr_range h.r
  simp +contextual (disch:=omega) [-getElem?_pos,-List.length_eq_zero_iff,-Int.natCast_eq_zero,wrap64,v_dam_work_over,c_dam_crest h.r])
noncomputable def stL (s:Ds) (inf los:Int):Int:=s.v + inf - min los (s.v + inf)
noncomputable def stT (d:Dm) (s:Ds) (inf los rel:Int):Int:=ssum (flw d s (mst d rel (stL s inf los))) d.u.length
noncomputable def stP (d:Dm) (s:Ds) (inf los rel:Int):Int:=spl d s rel (stL s inf los) (hgt d.r s.v) (stT d s inf los rel)
noncomputable def stO (d:Dm) (s:Ds) (inf los rel:Int):Int:=max (stL s inf los - (stT d s inf los rel + stP d s inf los rel) - dCr d) 0
noncomputable def stR (d:Dm) (s:Ds) (inf los rel:Int):Dr:=⟨inf,min los (s.v + inf),stT d s inf los rel,stP d s inf los rel,stO d s inf los rel,ssum (pww d s (mst d rel (stL s inf los))) d.u.length,ssum (sta d s (mst d rel (stL s inf los))) d.u.length⟩
noncomputable def stS (d:Dm) (s:Ds) (inf los rel:Int):Ds:=⟨stL s inf los - (stT d s inf los rel + stP d s inf los rel) - stO d s inf los rel,min (stT d s inf los rel + stP d s inf los rel) 1073741824,
 nus d s (mst d rel (stL s inf los)) d.u.length,setS d.g s.g (hgt d.r s.v) (wnt d rel (stL s inf los) (stT d s inf los rel))⟩
theorem stT_range {d:Dm} (h:Dv d) {s:Ds} {inf los rel:Int}:0 ≤ stT d s inf los rel ∧ stT d s inf los rel ≤ 6442450944:=by
 have h1:=ssum_range (f:=flw d s (mst d rel (stL s inf los))) (n:=d.u.length) (fun i hi => flw_range hi) d.u.length (Nat.le_refl _)
 have h2:=h.u
 unfold stT;omega
theorem posts_cons {C:CallF} {args:List V} {f:FuncId} {fs:List FuncId} {G G':List GObj} {r:V} {o:Option (List GObj)} (h1:C f args G = some (r,G')) (h2:posts C args fs G' = o):posts C args (f :: fs) G = o:=by
 simp only [posts,h1,h2]
abbrev wk0 (d:Dm) (s:Ds) (inf los rel lv:Int):GObj:=.cells
 [pts d.r.c,i64 d.r.d,i64 d.r.l,i64 d.r.f,i64 d.r.s,i64 d.r.t,uns d.u,gts d.g,i64 d.gr,i64 s.v,i64 s.rel,sts s.u,gss s.g,
  i64 0,i64 0,.oslice 3 [],.oslice 2 [],i64 inf,i64 los,i64 0,i64 0,i64 0,i64 0,i64 0,i64 rel,i64 0,i64 lv]
theorem c_run {d:Dm} (h:Dv d) {s:Ds} (hs:dfit d s) {inf los rel:Int} (hi:0 ≤ inf ∧ inf ≤ 1073741824) (hl:0 ≤ los ∧ los ≤ 1073741824) (hr:0 ≤ rel ∧ rel ≤ 1073741824) :
  ∃ lf,Lim F 42 [.gptr 0 0] [wk0 d s inf los rel (hgt d.r s.v)] =
    some (.tuple [],[wk d s (stS d s inf los rel).v (stS d s inf los rel).rel (stS d s inf los rel).u (.slice none 2 ((stS d s inf los rel).g.map Gs.row)) (stR d s inf los rel) rel lf (hgt d.r s.v)]):=by
 suffices hh:∀ Q:V → List GObj → Prop,(∀ lf,Q (.tuple []) [wk d s (stS d s inf los rel).v (stS d s inf los rel).rel (stS d s inf los rel).u (.slice none 2 ((stS d s inf los rel).g.map Gs.row)) (stR d s inf los rel) rel lf (hgt d.r s.v)]) → Ret (Lim F) 42 [.gptr 0 0] [wk0 d s inf los rel (hgt d.r s.v)] Q by
  obtain ⟨_,G',h,lf,rfl,rfl⟩:=hh (fun v G' => ∃ lf,v = .tuple [] ∧ G' = [wk d s (stS d s inf los rel).v (stS d s inf los rel).rel (stS d s inf los rel).u (.slice none 2 ((stS d s inf los rel).g.map Gs.row)) (stR d s inf los rel) rel lf (hgt d.r s.v)]) fun lf => ⟨lf,rfl,rfl⟩
  exact ⟨lf,h⟩
 intro Q hQ
 refine ret_of_defs rfl rfl ?_
 have hv:=hs.1
 have hC:=dCr_range h.r
 simp +contextual (disch:=omega) [-getElem?_pos,-List.length_eq_zero_iff,-Int.natCast_eq_zero,wrap64,v_dam_work_run]
 have hL:0 ≤ stL s inf los ∧ stL s inf los ≤ 4611686018427387904:=by unfold stL;omega
 have hT:=stT_range h (s:=s) (inf:=inf) (los:=los) (rel:=rel)
 have hP:-1099511627776 ≤ stP d s inf los rel ∧ stP d s inf los rel ≤ 1099511627776:=by
  have h1:=setF_range d.g s.g (hgt d.r s.v) (wnt d rel (stL s inf los) (stT d s inf los rel))
  have h2:0 ≤ fre d (stL s inf los):=by unfold fre;omega
  unfold stP spl;omega
 have h1:=c_turbines h hs (nv:=0) (nr:=0) (inf:=inf) (los:=min los (s.v + inf)) (spi:=0) (ovr:=0) (rel:=rel) (left:=stL s inf los) (lv:=hgt d.r s.v) (ng:=.oslice 2 []) hL hr
 have h2:=c_gates h (s:=s) (nv:=0) (nr:=0) (nu:=nus d s (mst d rel (stL s inf los)) d.u.length) (ng:=.oslice 2 []) (inf:=inf) (los:=min los (s.v + inf)) (tur:=stT d s inf los rel) (spi:=0) (ovr:=0)
  (pw:=ssum (pww d s (mst d rel (stL s inf los))) d.u.length) (st:=ssum (sta d s (mst d rel (stL s inf los))) d.u.length) (rel:=rel) (left:=stL s inf los) (lv:=hgt d.r s.v) hL hr (by omega)
 have h3:=c_over h (s:=s) (nv:=0) (nr:=0) (nu:=nus d s (mst d rel (stL s inf los)) d.u.length) (ng:=.slice none 2 ((setS d.g s.g (hgt d.r s.v) (wnt d rel (stL s inf los) (stT d s inf los rel))).map Gs.row)) (inf:=inf) (los:=min los (s.v + inf)) (tur:=stT d s inf los rel) (spi:=stP d s inf los rel) (ovr:=0)
  (pw:=ssum (pww d s (mst d rel (stL s inf los))) d.u.length) (st:=ssum (sta d s (mst d rel (stL s inf los))) d.u.length) (rel:=rel) (left:=stL s inf los) (lv:=hgt d.r s.v) hL (by omega) hP
 exact ⟨_,posts_cons h1 (posts_cons h2 (posts_cons h3 rfl)),hQ _⟩
theorem c_dam_Step_1 (n:Int) (G:List GObj):Lim F 40 [i64 n] G = some (.bool (!decide (0 ≤ n ∧ n ≤ 1073741824)),G) :=
 eq_of rfl rfl (by
  simp +contextual (disch:=omega) [-getElem?_pos,-List.length_eq_zero_iff,-Int.natCast_eq_zero,wrap64,v_dam_Step_1,c_quantity_Within])
theorem c_indexfunc (l:List Int) (hl:l.length ≤ 1000) (p:Int → Bool) (f:FuncId) (G:List GObj) (h:∀ n,Lim F f [i64 n] G = some (.bool (p n),G)) :
  ∃ k:Int,(decide (0 ≤ k) = l.any p) ∧ Lim F 73 [ints l,.fn f []] G = some (i64 k,G):=by
 suffices hh:∀ Q:V → List GObj → Prop,(∀ k:Int,decide (0 ≤ k) = l.any p → Q (i64 k) G) → Ret (Lim F) 73 [ints l,.fn f []] G Q by
  obtain ⟨_,G',h,k,h1,rfl,rfl⟩:=hh (fun v G' => ∃ k:Int,decide (0 ≤ k) = l.any p ∧ v = i64 k ∧ G' = G) fun k hk => ⟨k,hk,rfl,rfl⟩
  exact ⟨k,h1,h⟩
 intro Q hQ
 refine ret_of rfl rfl ?_
 simp +contextual (disch:=omega) [-getElem?_pos,-List.length_eq_zero_iff,-Int.natCast_eq_zero,wrap64,v_slices_IndexFunc_int_int]
 refine go_loop (fun i:Nat => v_slices_IndexFunc_int_int_s0 (ints l) (.fn f []) l.length i G) (fun i => i ≤ l.length ∧ ∀ x ∈ l.take i,p x = false) (fun i => l.length - i) 0 rfl (by simp) ⟨by omega,by simp⟩ ?_
 rintro i ⟨hi,hp⟩
 simp +contextual (disch:=omega) [-getElem?_pos,-List.length_eq_zero_iff,-Int.natCast_eq_zero,wrap64,v_slices_IndexFunc_int_int_b0]
 refine cnd_dec (fun h5 => ?_) (fun h5 => ?_)
 ·have h5:i < l.length:=by omega
  simp +contextual (disch:=omega) [-getElem?_pos,-List.length_eq_zero_iff,-Int.natCast_eq_zero,wrap64,get_int (l:=l),h]
  refine cnd_bool (fun h6 => ?_) (fun h6 => ?_)
  ·refine hQ _ ?_
   rw [decide_eq_true (by omega)]
   exact (List.any_eq_true.2 ⟨_,nth_mem h5,h6⟩).symm
  ·refine rnd_next (i + 1) (by simp) ⟨by omega,?_⟩ (by omega)
   intro x hx
   rw [take_snoc h5] at hx
   rcases List.mem_append.1 hx with hx | hx
   ·exact hp x hx
   ·rw [List.mem_singleton.1 hx];exact h6
 ·obtain rfl:i = l.length:=by omega
  refine hQ _ ?_
  rw [List.take_length] at hp
  rw [show l.any p = false from List.any_eq_false.2 fun x hx => by rw [hp x hx];simp]
  rfl
theorem c_containsfunc (l:List Int) (hl:l.length ≤ 1000) (p:Int → Bool) (f:FuncId) (G:List GObj) (h:∀ n,Lim F f [i64 n] G = some (.bool (p n),G)) :
  Lim F 39 [ints l,.fn f []] G = some (.bool (l.any p),G) :=
 eq_of rfl rfl (by
  obtain ⟨k,h1,h2⟩:=c_indexfunc l hl p f G h
  simp +contextual (disch:=omega) [-getElem?_pos,-List.length_eq_zero_iff,-Int.natCast_eq_zero,wrap64,v_slices_ContainsFunc_int_int,h2]
  exact h1)
def out1 (n:Int):Bool:=!decide (0 ≤ n ∧ n ≤ 1073741824)
noncomputable def stE' (d:Dm) (s:Ds) (inf los rel:Int):Int:=if dE d s ≠ 0 then dE d s else if [inf,los,rel].any out1 then 1 else 0
noncomputable def stAns (d:Dm) (s:Ds) (inf los rel:Int):V:=.tuple (if stE' d s inf los rel = 0 then [dst (stS d s inf los rel),dr (stR d s inf los rel),i64 0] else [.agg [i64 0,i64 0,.slice (some 0) 3 [],.slice (some 0) 2 []],dr ⟨0,0,0,0,0,0,0⟩,i64 (stE' d s inf los rel)])
theorem c_dam_Step (d:Dm) (s:Ds) (inf los rel:Int):∃ G',Lim F 11 [dm d,dst s,i64 inf,i64 los,i64 rel] [] = some (stAns d s inf los rel,G'):=by
 suffices h:∀ Q:V → List GObj → Prop,(∀ G',Q (stAns d s inf los rel) G') → Ret (Lim F) 11 [dm d,dst s,i64 inf,i64 los,i64 rel] [] Q by
  obtain ⟨_,G',h,rfl⟩:=h (fun v G' => v = stAns d s inf los rel) fun _ => rfl
  exact ⟨G',h⟩
 intro Q hQ
 refine ret_of rfl rfl ?_
 have hc:Lim F 39 [.slice none 1 [[i64 inf],[i64 los],[i64 rel]],.fn 40 []] [] = some (.bool ([inf,los,rel].any out1),[]) :=
  c_containsfunc [inf,los,rel] (by simp) out1 40 [] (fun n => c_dam_Step_1 n [])
 unfold stAns stE' at hQ
 generalize hx:[inf,los,rel].any out1 = x at hc hQ
 by_cases hd:dE d s = 0
 ·obtain ⟨hdv,hdf⟩:=dE_zero hd
  have hlv:lvl d s = hgt d.r s.v:=by simp [lvl,hd]
  simp only [hd,ne_eq,not_true_eq_false,if_false] at hQ
  cases x with
  | true =>
    simp only [if_true,if_neg (show ¬ (1:Int) = 0 by omega)] at hQ
    simp +contextual (disch:=omega) [-getElem?_pos,-List.length_eq_zero_iff,-Int.natCast_eq_zero,wrap64,v_dam_Step,c_dam_Level,hd,hlv,hc]
    exact hQ _
  | false =>
    simp only [out1,List.any_cons,List.any_nil,Bool.or_false,Bool.or_eq_false_iff,Bool.not_eq_false',decide_eq_true_eq] at hx
    obtain ⟨lf,hr⟩:=c_run hdv hdf hx.1 hx.2.1 hx.2.2
    simp +contextual (disch:=omega) [-getElem?_pos,-List.length_eq_zero_iff,-Int.natCast_eq_zero,wrap64,v_dam_Step,c_dam_Level,hd,hlv,hc,hr]
    exact hQ _
 ·simp only [hd,ne_eq,not_false_eq_true,if_true,if_false] at hQ
  simp +contextual (disch:=omega) [-getElem?_pos,-List.length_eq_zero_iff,-Int.natCast_eq_zero,wrap64,v_dam_Step,c_dam_Level,hd]
  exact hQ _
end Go.Proofs.YtfjdfnegookkcaaGreat
namespace Go.Proofs.YtfjdfnegookkcaaGreat
set_option linter.all false
open Go.Vm
theorem cv_xle {c:List Pt} (h:Cv c):∀ {i j:Nat},i ≤ j → j < c.length → (nth c i).x ≤ (nth c j).x:=by
 intro i j
 induction j with
 | zero => intro h1 _;obtain rfl:i = 0:=by omega
           omega
 | succ j ih =>
   intro h1 h2
   rcases Nat.lt_or_ge i (j + 1) with h3 | h3
   ·have:=ih (by omega) (by omega)
    have:=h.up (j + 1) (by omega) h2
    simp only [Nat.add_sub_cancel] at this
    omega
   ·obtain rfl:i = j + 1:=by omega
    omega
theorem lpol_range {c:List Pt} (h:Cv c) {y:Int} {i:Nat} (hi:i + 1 < c.length) (h1:(nth c i).y ≤ y) (h2:y < (nth c (i + 1)).y):(nth c i).x ≤ lpol c y i ∧ lpol c y i ≤ (nth c (i + 1)).x:=by
 have u1:=h.up (i + 1) (by omega) hi
 simp only [Nat.add_sub_cancel] at u1
 have a1:(y - (nth c i).y + 1) * ((nth c (i + 1)).x - (nth c i).x) ≤ ((nth c (i + 1)).y - (nth c i).y) * ((nth c (i + 1)).x - (nth c i).x):=Int.mul_le_mul_of_nonneg_right (by omega) (by omega)
 have a2:0 < (y - (nth c i).y + 1) * ((nth c (i + 1)).x - (nth c i).x):=Int.mul_pos (by omega) (by omega)
 unfold lpol
 rw [Int.tdiv_eq_ediv_of_nonneg (by omega)]
 have b1:0 ≤ ((y - (nth c i).y + 1) * ((nth c (i + 1)).x - (nth c i).x) - 1) / ((nth c (i + 1)).y - (nth c i).y):=Int.ediv_nonneg (by omega) (by omega)
 have b2:((y - (nth c i).y + 1) * ((nth c (i + 1)).x - (nth c i).x) - 1) / ((nth c (i + 1)).y - (nth c i).y) ≤ (nth c (i + 1)).x - (nth c i).x:=by
  refine Int.le_trans (Int.ediv_le_ediv (by omega) (show _ ≤ ((nth c (i + 1)).x - (nth c i).x) * ((nth c (i + 1)).y - (nth c i).y) by rw [Int.mul_comm ((nth c (i + 1)).x - (nth c i).x)];omega)) ?_
  rw [Int.mul_ediv_cancel _ (by omega)]
  exact Int.le_refl _
 omega
theorem clF_range {c:List Pt} (h:Cv c) {y:Int}:∀ (m i:Nat),i + m = c.length - 1 → (nth c i).y ≤ y → (nth c 0).x ≤ clF c y m i ∧ clF c y m i ≤ (nth c (c.length - 1)).x
 | 0,i,hi,_ => by
   have hp:=h.pos
   have:=cv_xle h (i:=0) (j:=c.length - 1) (by omega) (by omega)
   unfold clF
   omega
 | m + 1,i,hi,hy => by
   have hp:=h.pos
   unfold clF
   split
   ·rename_i h2
    have h3:=lpol_range h (i:=i) (by omega) hy h2
    have:=cv_xle h (i:=0) (j:=i) (by omega) (by omega)
    have:=cv_xle h (i:=i + 1) (j:=c.length - 1) (by omega) (by omega)
    omega
   ·exact clF_range h m (i + 1) (by omega) (by omega)
theorem hgt_range {r:Rs} (h:sChk r = 0) (v:Int):0 ≤ hgt r v ∧ hgt r v ≤ 16777216:=by
 have hs:=sv_of h
 have hc:=cv_of hs.c
 have hp:=hc.pos
 have:=hs.top
 have h0:=hc.x0 0 hp
 have h1:=cv_xle hc (i:=0) (j:=r.c.length - 1) (by omega) (by omega)
 unfold hgt
 split
 ·omega
 ·have:=clF_range hc (y:=v) (r.c.length - 1) 0 (by omega) (by omega)
  unfold clast
  omega
theorem aE_dam {d:Dm} {s:Ds} (h:Dv d) (hf:dfit d s):aE d.g s.g (hgt d.r s.v) = 0:=by
 have hr:=hgt_range h.r s.v
 have hg:=h.g
 have hl:=hf.2.2.2.1
 unfold aE
 rw [if_neg (by omega),if_neg (by omega),if_neg (fun g => g hf.2.2.2.2.2),if_neg (fun g => g (fsE_zero fun i _ hi => h.gv i (by omega))),if_neg (by omega)]
theorem ssum_nth (l:List Int):∀ i,i ≤ l.length → ssum (fun j => nth l j) i = (l.take i).sum
 | 0,_ => by simp [ssum]
 | i + 1,h => by
   rw [take_snoc (by omega),List.sum_append,← ssum_nth l i (by omega)]
   simp [ssum]
theorem ssum_zero:∀ i,ssum (fun _ => 0) i = 0
 | 0 => rfl
 | i + 1 => by simp [ssum,ssum_zero i]
theorem stT_most {d:Dm} (s:Ds) {m:Int} (hm:0 ≤ m):ssum (flw d s m) d.u.length ≤ m:=by
 by_cases he:bestE d.u s.u d.gr m = 0
 ·obtain ⟨h1,h2⟩:=bestE_feas he
  have hl:=(feas_len h1).1
  have:flw d s m = fun j => nth (bestL d.u s.u d.gr m) j:=by funext j;simp [flw,he]
  rw [this,ssum_nth _ _ (by omega),List.take_of_length_le (by omega)]
  exact h2
 ·have:flw d s m = fun _ => 0:=by funext j;simp [flw,he]
  rw [this,ssum_zero]
  exact hm
structure Stp (d:Dm) (s:Ds) (inf los rel:Int):Prop where
 L:stL s inf los = max 0 (s.v + inf - los)
 T0:0 ≤ stT d s inf los rel
 Tr:stT d s inf los rel ≤ rel
 Tf:stT d s inf los rel ≤ fre d (stL s inf los)
 P0:0 ≤ stP d s inf los rel
 sum:stT d s inf los rel + stP d s inf los rel ≤ fre d (stL s inf los)
 P1:stP d s inf los rel ≤ 17179869184
 w0:0 ≤ wnt d rel (stL s inf los) (stT d s inf los rel) ∧ wnt d rel (stL s inf los) (stT d s inf los rel) ≤ 1073741824
theorem stp_of {d:Dm} (h:Dv d) {s:Ds} (hf:dfit d s) {inf los rel:Int} (hi:0 ≤ inf ∧ inf ≤ 1073741824) (hl:0 ≤ los ∧ los ≤ 1073741824) (hr:0 ≤ rel ∧ rel ≤ 1073741824):Stp d s inf los rel:=by
 have hv:=hf.1
 have hg:=h.gr
 have hfr:0 ≤ fre d (stL s inf los):=by unfold fre;omega
 have hm:0 ≤ mst d rel (stL s inf los):=by unfold mst;omega
 have h1:=stT_most (d:=d) s hm
 have h2:=stT_range h (s:=s) (inf:=inf) (los:=los) (rel:=rel)
 have h3:stT d s inf los rel ≤ mst d rel (stL s inf los):=h1
 have h4:=setF_range d.g s.g (hgt d.r s.v) (wnt d rel (stL s inf los) (stT d s inf los rel))
 have h5:stP d s inf los rel = min (setF d.g s.g (hgt d.r s.v) (wnt d rel (stL s inf los) (stT d s inf los rel))) (fre d (stL s inf los) - stT d s inf los rel):=rfl
 unfold mst at h3
 refine ⟨by unfold stL;omega,h2.1,by omega,by omega,by omega,by omega,by omega,?_⟩
 unfold wnt
 omega
end Go.Proofs.YtfjdfnegookkcaaGreat
namespace Go.Proofs.YtfjdfnegookkcaaGreat
set_option linter.all false
open Go.Vm
attribute [local simp] cond_yes cond_yes2 int_beq int_bne
theorem lo_sums {us:List Un} {ss:List Us} {g:Int} (h:rngE us ss g = 0):(0 ≤ loS g us ss ∧ loS g us ss ≤ 6442450944) ∧ 0 ≤ hiS g us ss ∧ hiS g us ss ≤ 6442450944:=by
 have h1:=(st0_of h).1
 have hl:=h1.len
 have hf:=h1.few
 have r1:=zs_range (f:=loU g) hl (fun i hi => (lo_range (h1.valid i hi)).1) us.length (Nat.le_refl _)
 have r2:=zs_range (f:=hiU g) hl (fun i hi => (lo_range (h1.valid i hi)).2) us.length (Nat.le_refl _)
 rw [List.take_of_length_le (by simp;omega)] at r1 r2
 unfold loS hiS
 omega
noncomputable def uLo (us:List Un) (ss:List Us) (g:Int):Int:=if rngE us ss g = 0 then loS g us ss else 0
noncomputable def uHi (us:List Un) (ss:List Us) (g:Int):Int:=if rngE us ss g = 0 then hiS g us ss else 0
noncomputable def gLeast (g:List Gt) (s:List Gs) (lv:Int):Int:=if aE g s lv = 0 then gsum (glo lv) g s g.length else 0
theorem uLo_range {us:List Un} {ss:List Us} {g:Int}:(0 ≤ uLo us ss g ∧ uLo us ss g ≤ 6442450944) ∧ 0 ≤ uHi us ss g ∧ uHi us ss g ≤ 6442450944:=by
 unfold uLo uHi
 by_cases h:rngE us ss g = 0
 ·rw [if_pos h,if_pos h];exact lo_sums h
 ·rw [if_neg h,if_neg h];omega
theorem gMost_range {g:List Gt} {s:List Gs} {lv:Int}:(0 ≤ gLeast g s lv ∧ gLeast g s lv ≤ 8589934592) ∧ 0 ≤ gMost g s lv ∧ gMost g s lv ≤ 8589934592:=by
 unfold gLeast gMost
 by_cases h:aE g s lv = 0
 ·rw [if_pos h,if_pos h]
  obtain ⟨h1,h2,h3,h4,h5⟩:=aE_zero h
  have r1:=gsum_range (f:=glo lv) h2 (fun i hi => gfl_range (h4 i hi) _ _) g.length (Nat.le_refl _)
  have r2:=gsum_range (f:=ghi lv) h2 (fun i hi => gfl_range (h4 i hi) _ _) g.length (Nat.le_refl _)
  omega
 ·rw [if_neg h,if_neg h];omega
theorem rngV_eq (us:List Un) (ss:List Us) (g:Int):rngV us ss g = .tuple [.agg [i64 (uLo us ss g),i64 (uHi us ss g)],i64 (rngE us ss g)]:=by
 unfold rngV uLo uHi
 by_cases h:rngE us ss g = 0
 ·rw [if_pos h,if_pos h,if_pos h]
 ·rw [if_neg h,if_neg h,if_neg h]
theorem grV_eq (g:List Gt) (s:List Gs) (lv:Int):grV g s lv = .tuple [.agg [i64 (gLeast g s lv),i64 (gMost g s lv)],i64 (aE g s lv)]:=by
 unfold grV gLeast gMost
 by_cases h:aE g s lv = 0
 ·rw [if_pos h,if_pos h,if_pos h,h]
 ·rw [if_neg h,if_neg h,if_neg h]
noncomputable def canA (d:Dm) (s:Ds):Int:=if dE d s = 0 then uLo d.u s.u d.gr + gLeast d.g s.g (lvl d s) else 0
noncomputable def canB (d:Dm) (s:Ds):Int:=if dE d s = 0 then uHi d.u s.u d.gr + gMost d.g s.g (lvl d s) else 0
theorem c_dam_Flow (r:Dr) (ht:0 ≤ r.tur ∧ r.tur ≤ 1099511627776) (hs:0 ≤ r.spi ∧ r.spi ≤ 1099511627776) (ho:0 ≤ r.ovr ∧ r.ovr ≤ 1099511627776) (G:List GObj):Lim F 14 [dr r] G = some (i64 (r.tur + r.spi + r.ovr),G) :=
 eq_of rfl rfl (by
  simp +contextual (disch:=omega) [-getElem?_pos,-List.length_eq_zero_iff,-Int.natCast_eq_zero,wrap64,v_dam_Flow])
end Go.Proofs.YtfjdfnegookkcaaGreat
namespace Go.Proofs.YtfjdfnegookkcaaGreat
set_option linter.all false
open Go.Vm
attribute [local simp] cond_yes cond_yes2 int_beq int_bne
theorem five {l:List Int} (h:l.length = 5):∃ a b c d e,l = [a,b,c,d,e]:=by
 match l,h with
 | [a,b,c,d,e],_ => exact ⟨a,b,c,d,e,rfl⟩
theorem nth_set {l:List Int} {i j:Nat} {v:Int} (h:i < l.length):nth (l.set i v) j = if i = j then v else nth l j:=by
 simp only [nth,List.getD,List.getElem?_set]
 by_cases e:i = j
 ·subst e;simp [h]
 ·simp [e]
theorem sChk_made {c:List Pt} {x y dx dy:Int} (h:Cw c x y dx dy 1) (h2:2 ≤ c.length) (hx:0 ≤ x ∧ x ≤ 1000) (hy:0 ≤ y ∧ y ≤ 1000) (hdx:0 ≤ dx ∧ dx ≤ 1000) (hdy:0 ≤ dy ∧ dy ≤ 1000)
  {a1 a2 a3 a4 a5:Int} (l1:x ≤ a1) (l2:a1 ≤ a2) (l3:a2 ≤ a3) (l4:a3 ≤ a4) (l5:a4 ≤ a5) (l6:a5 ≤ (nth c (c.length - 1)).x):sChk ⟨c,a1,a2,a3,a4,a5⟩ = 0:=by
 have hc:=h.chk hx hy hdx hdy (by omega)
 have hf:=h.few
 have hu:=h.up hx hy hdx hdy (by omega) (c.length - 1) (by omega)
 have h0:(nth c 0).x = x:=by rw [h.first]
 unfold sChk
 simp only
 rw [if_neg (fun g => g hc),if_neg (by omega),if_neg (by omega),if_pos,fsE_zero]
 ·intro i hi1 hi2
  have:i = 1 ∨ i = 2 ∨ i = 3 ∨ i = 4 ∨ i = 5 ∨ i = 6:=by omega
  rcases this with rfl | rfl | rfl | rfl | rfl | rfl <;> simp only [lStep,sLv,nth,List.getD,List.getElem?_cons_succ,List.getElem?_cons_zero,Option.getD_some] <;> refine if_neg ?_
  ·have:(nth c 0).x ≤ a1:=by omega
   simp only [nth,List.getD] at this;simp;omega
  ·simp;omega
  ·simp;omega
  ·simp;omega
  ·simp;omega
  ·simp only [nth,List.getD] at l6;simp;omega
 ·refine fsE_zero fun i hi1 hi2 => ?_
  have:=h.step i (by omega) (by omega)
  exact if_neg (by omega)
theorem c_mk_Reservoir {l:List Int} {k:Nat} (hd:okd l k):∃ r k',Lim F 34 [.gptr 0 0] [dk l k] = some (.agg r.cells,[dk l k']) ∧ okd l k' ∧ sChk r = 0 ∧ (nth r.c (r.c.length - 1)).y ≤ 10000:=by
 suffices h:∀ Q:V → List GObj → Prop,(∀ r k',okd l k' → sChk r = 0 → (nth r.c (r.c.length - 1)).y ≤ 10000 → Q (.agg r.cells) [dk l k']) → Ret (Lim F) 34 [.gptr 0 0] [dk l k] Q by
  obtain ⟨_,_,h,r,k',rfl,rfl,h1⟩:=h (fun v G => ∃ r k',v = .agg r.cells ∧ G = [dk l k'] ∧ okd l k' ∧ sChk r = 0 ∧ (nth r.c (r.c.length - 1)).y ≤ 10000) fun r k' a b c => ⟨r,k',rfl,rfl,a,b,c⟩
  exact ⟨r,k',h,h1⟩
 intro Q hQ
 refine ret_of rfl rfl ?_
 obtain ⟨a1,k1,n1,hd1,ha1⟩:=c_Next hd 10 (by omega)
 obtain ⟨a2,k2,n2,hd2,ha2⟩:=c_Next hd1 20 (by omega)
 obtain ⟨c,k3,n3,hd3,hc2,hc⟩:=c_mk_Curve hd2 (x:=100 + a1) (y:=a2) (dx:=40) (dy:=200) true (by omega) (by omega) (by omega) (by omega)
 simp only [if_true] at hc
 have hu:=hc.up (by omega) (by omega) (by omega) (by omega) (by omega)
 have hf:=hc.few
 have h0:(nth c 0).x = 100 + a1:=by rw [hc.first]
 have hu1:=hu (c.length - 1) (by omega)
 have hlast:(nth c 0).x ≤ (nth c (c.length - 1)).x:=by
  have:∀ i,i < c.length → (nth c 0).x ≤ (nth c i).x:=by
   intro i
   induction i with
   | zero => intro _;omega
   | succ i ih => intro hi;have:=ih (by omega);have:=hc.step (i + 1) (by omega) hi;simp only [Nat.add_sub_cancel] at this;omega
  exact this _ (by omega)
 have h3:((c.length:Int) - 1).toNat = c.length - 1:=by omega
 have h5:0 ≤ (c.length:Int) - 1:=by omega
 simp +contextual (disch:=omega) [-getElem?_pos,-List.length_eq_zero_iff,-Int.natCast_eq_zero,wrap64,v_mk_Reservoir,n1,n2,n3,get_nth (l:=c),h3,h5]
 refine go_loop (fun s:Nat × Int × List Int × Nat => v_mk_Reservoir_s0 (.gptr 0 0) s.2.1 (nth c (c.length - 1)).x s.1 [.nils,i64 0,i64 0,i64 0,i64 0,i64 0] [pts c,i64 0,i64 0,i64 0,i64 0,i64 0] (icells s.2.2.1) [dk l s.2.2.2])
  (fun s => s.1 ≤ 5 ∧ s.2.2.1.length = 5 ∧ (100 + a1 ≤ s.2.1 ∧ s.2.1 ≤ (nth c (c.length - 1)).x) ∧ (∀ j,j < s.1 → 100 + a1 ≤ nth s.2.2.1 j) ∧ (∀ i j,i ≤ j → j < s.1 → nth s.2.2.1 i ≤ nth s.2.2.1 j) ∧ (∀ j,j < s.1 → nth s.2.2.1 j ≤ s.2.1) ∧ okd l s.2.2.2)
  (fun s => 5 - s.1) (0,100 + a1,[0,0,0,0,0],k3) rfl (by simp [icells,h0]) ⟨by simp,by simp,⟨by simp,by simp only;omega⟩,by simp,by simp,by simp,hd3⟩ ?_
 rintro ⟨i,at',ls,k⟩ ⟨hi,hls,⟨b1,b2⟩,h6,h7,h8,hd⟩
 simp only at hi hls b1 b2 h6 h7 h8 hd
 simp +contextual (disch:=omega) [-getElem?_pos,-List.length_eq_zero_iff,-Int.natCast_eq_zero,wrap64,v_mk_Reservoir_b0]
 refine cnd_dec (fun h9 => ?_) (fun h9 => ?_)
 ·have h9:i < 5:=by omega
  have hne:¬ (5:Int) - i = 0:=by omega
  have hq0:0 ≤ ((nth c (c.length - 1)).x - at').tdiv (5 - i):=Int.tdiv_nonneg (by omega) (by omega)
  have hq1:((nth c (c.length - 1)).x - at').tdiv (5 - i) ≤ (nth c (c.length - 1)).x - at':=Int.tdiv_le_self _ (by omega)
  obtain ⟨p,k4,n4,hd4,hp⟩:=c_Next hd (((nth c (c.length - 1)).x - at').tdiv (5 - i) + 1) (by omega)
  simp +contextual (disch:=omega) [-getElem?_pos,-List.length_eq_zero_iff,-Int.natCast_eq_zero,wrap64,n4,hne]
  refine rnd_next (i + 1,at' + p,ls.set i (at' + p),k4) (by simp) ⟨by simp only;omega,by simp [hls],⟨by simp only;omega,by simp only;omega⟩,?_,?_,?_,hd4⟩ (by simp only;omega)
  ·intro j hj
   simp only at hj ⊢
   rw [nth_set (by omega)]
   split
   ·omega
   ·exact h6 j (by omega)
  ·intro i' j hij hj
   simp only at hj ⊢
   rw [nth_set (by omega),nth_set (by omega)]
   by_cases e1:i = j
   ·rw [if_pos e1]
    split
    ·omega
    ·have:=h8 i' (by omega);omega
   ·rw [if_neg e1,if_neg (by omega)]
    exact h7 i' j hij (by omega)
  ·intro j hj
   simp only at hj ⊢
   rw [nth_set (by omega)]
   split
   ·omega
   ·have:=h8 j (by omega);omega
 ·obtain rfl:i = 5:=by omega
  obtain ⟨e1,e2,e3,e4,e5,rfl⟩:=five hls
  simp +contextual (disch:=omega) [-getElem?_pos,-List.length_eq_zero_iff,-Int.natCast_eq_zero,wrap64,icells]
  have q1:=h6 0 (by omega)
  have q2:=h7 0 1 (by omega) (by omega)
  have q3:=h7 1 2 (by omega) (by omega)
  have q4:=h7 2 3 (by omega) (by omega)
  have q5:=h7 3 4 (by omega) (by omega)
  have q6:=h8 4 (by omega)
  exact hQ ⟨c,e1,e2,e3,e4,e5⟩ k hd (sChk_made hc hc2 (by omega) (by omega) (by omega) (by omega) q1 q2 q3 q4 q5 (Int.le_trans q6 b2)) (by simp only;omega)
structure Gw (l:List Rt):Prop where
 cw:∀ i,i < l.length → Cw (nth l i).c 0 0 6 20 0
 lv:∀ i,i < l.length → 0 ≤ (nth l i).lv ∧ (nth l i).lv ≤ 1000
 up:∀ i,0 < i → i < l.length → (nth l (i - 1)).lv < (nth l i).lv
theorem Gw.chk {l:List Rt} (h:Gw l) (h1:1 ≤ l.length) (h2:l.length ≤ 3) {m v:Int} (hm:0 ≤ m ∧ m ≤ 1000) (hv:0 ≤ v ∧ v ≤ 1000):gChk ⟨l,m,v⟩ = 0:=by
 unfold gChk
 simp only
 rw [if_neg (by omega),if_neg (by omega),if_neg,if_neg (by omega)]
 refine fun hn => hn (fsE_zero fun i _ hi => ?_)
 have hi:i < l.length:=by omega
 have hc:=h.cw i hi
 have hl:=h.lv i hi
 have hp:=hc.pos
 have hf:=hc.few
 have hu:=hc.up (by omega) (by omega) (by omega) (by omega) (by omega) ((nth l i).c.length - 1) (by omega)
 have h0:(nth (nth l i).c 0).x = 0 ∧ (nth (nth l i).c 0).y = 0:=by rw [hc.first];exact ⟨rfl,rfl⟩
 unfold rAt
 rw [if_neg (by omega),if_neg,if_neg (fun g => g (hc.chk (by omega) (by omega) (by omega) (by omega) (by omega))),if_neg (fun g => g h0),if_neg (by omega)]
 rintro ⟨h3,h4⟩
 have:=h.up i h3 hi
 omega
theorem Gw.snoc {l:List Rt} (h:Gw l) {r:Rt} (hc:Cw r.c 0 0 6 20 0) (hl:0 ≤ r.lv ∧ r.lv ≤ 1000) (hu:0 < l.length → (nth l (l.length - 1)).lv < r.lv):Gw (l ++ [r]):=by
 refine ⟨fun i hi => ?_,fun i hi => ?_,fun i h0 hi => ?_⟩
 ·simp at hi
  rw [nth_app]
  split
  ·exact h.cw i (by assumption)
  ·rw [if_pos (by omega)];exact hc
 ·simp at hi
  rw [nth_app]
  split
  ·exact h.lv i (by assumption)
  ·rw [if_pos (by omega)];exact hl
 ·simp at hi
  rw [nth_app,nth_app,if_pos (by omega)]
  split
  ·exact h.up i h0 (by assumption)
  ·obtain rfl:i = l.length:=by omega
   rw [if_pos rfl]
   exact hu h0
abbrev gtO (g:Gt):V:=.agg [.slice (some 0) 2 (g.r.map Rt.row),i64 g.most,i64 g.move]
theorem c_mk_Gate {l:List Int} {k:Nat} (hd:okd l k):∃ g k',Lim F 70 [.gptr 0 0] [dk l k] = some (gtO g,[dk l k']) ∧ okd l k' ∧ gChk g = 0:=by
 suffices h:∀ Q:V → List GObj → Prop,(∀ g k',okd l k' → gChk g = 0 → Q (gtO g) [dk l k']) → Ret (Lim F) 70 [.gptr 0 0] [dk l k] Q by
  obtain ⟨_,_,h,r,k',rfl,rfl,h1⟩:=h (fun v G => ∃ r k',v = gtO r ∧ G = [dk l k'] ∧ okd l k' ∧ gChk r = 0) fun r k' a b => ⟨r,k',rfl,rfl,a,b⟩
  exact ⟨r,k',h,h1⟩
 intro Q hQ
 refine ret_of rfl rfl ?_
 obtain ⟨a1,k1,n1,hd1,ha1⟩:=c_Next hd 12 (by omega)
 obtain ⟨a2,k2,n2,hd2,ha2⟩:=c_Next hd1 6 (by omega)
 obtain ⟨a3,k3,n3,hd3,ha3⟩:=c_Next hd2 40 (by omega)
 obtain ⟨a4,k4,n4,hd4,ha4⟩:=c_Next hd3 3 (by omega)
 simp +contextual (disch:=omega) [-getElem?_pos,-List.length_eq_zero_iff,-Int.natCast_eq_zero,wrap64,v_mk_Gate,n1,n2,n3,n4]
 refine go_loop (fun s:List Rt × Int × Int × Nat => v_mk_Gate_s0 (.gptr 0 0) s.2.1 s.2.2.1 [.nils,i64 0,i64 0] [.slice (some 1027) 2 (s.1.map Rt.row),i64 a1,i64 a2] s.1.length [dk l s.2.2.2])
  (fun s => Gw s.1 ∧ (s.1.length:Int) + s.2.2.1 ≤ 2 ∧ -1 ≤ s.2.2.1 ∧ (1 ≤ s.1.length ∨ 0 ≤ s.2.2.1) ∧ (0 ≤ s.2.1 ∧ s.2.1 ≤ 130 + 50 * s.1.length) ∧ (0 < s.1.length → (nth s.1 (s.1.length - 1)).lv < s.2.1) ∧ okd l s.2.2.2) (fun s => (s.2.2.1 + 1).toNat)
  ([],90 + a3,a4,k4) rfl (by simp) ⟨⟨by simp,by simp,by simp⟩,by simp;omega,by simp only;omega,by simp only;omega,by simp;omega,by simp,hd4⟩ ?_
 rintro ⟨r,lv,m,k⟩ ⟨hr,h1,h2,h3,h4,h5,hd⟩
 simp only at h1 h2 h3 h4 h5 hd hr
 obtain ⟨c,k5,n5,hd5,hc2,hc⟩:=c_mk_Curve hd (x:=0) (y:=0) (dx:=6) (dy:=20) false (by omega) (by omega) (by omega) (by omega)
 obtain ⟨a6,k6,n6,hd6,ha6⟩:=c_Next hd5 40 (by omega)
 simp +contextual (disch:=omega) [-getElem?_pos,-List.length_eq_zero_iff,-Int.natCast_eq_zero,wrap64,v_mk_Gate_b0]
 refine cnd_dec (fun h6 => ?_) (fun h6 => ?_)
 ·simp +contextual (disch:=omega) [-getElem?_pos,-List.length_eq_zero_iff,-Int.natCast_eq_zero,wrap64,n5,n6]
  refine rnd_next (r ++ [⟨lv,c⟩],lv + (1 + a6),m - 1,k6) (by simp) ⟨hr.snoc hc (by simp only;omega) h5,by simp;omega,by simp only;omega,by simp,by simp;omega,by simp [nth_app];omega,hd6⟩ (by simp only;omega)
 ·exact hQ ⟨r,a1,a2⟩ k hd (hr.chk (by omega) (by omega) (by omega) (by omega))
abbrev gtsO (l:List Gt):V:=.slice (some 0) 3 (l.map Gt.row)
abbrev gssO (l:List Gs):V:=.slice (some 0) 2 (l.map Gs.row)
structure Gws (a:List Gt) (b:List Gs):Prop where
 len:a.length = b.length
 gate:∀ i,i < a.length → gChk (nth a i) = 0
 state:∀ i,i < a.length → gvP (nth a i) (nth b i)
theorem c_mk_Gates {l:List Int} {k:Nat} (hd:okd l k) {m:Nat} (hm:m ≤ 1000):∃ a b k',Lim F 36 [.gptr 0 0,i64 m] [dk l k] = some (.tuple [gtsO a,gssO b],[dk l k']) ∧ okd l k' ∧ Gws a b ∧ a.length ≤ m:=by
 suffices h:∀ Q:V → List GObj → Prop,(∀ a b k',okd l k' → Gws a b → a.length ≤ m → Q (.tuple [gtsO a,gssO b]) [dk l k']) → Ret (Lim F) 36 [.gptr 0 0,i64 m] [dk l k] Q by
  obtain ⟨_,_,h,a,b,k',rfl,rfl,h1⟩:=h (fun v G => ∃ a b k',v = .tuple [gtsO a,gssO b] ∧ G = [dk l k'] ∧ okd l k' ∧ Gws a b ∧ a.length ≤ m) fun a b k' h1 h2 h3 => ⟨a,b,k',rfl,rfl,h1,h2,h3⟩
  exact ⟨a,b,k',h,h1⟩
 intro Q hQ
 refine ret_of rfl rfl ?_
 obtain ⟨n,k1,n1,hd1,hn⟩:=c_Next hd (m + 1) (by omega)
 simp +contextual (disch:=omega) [-getElem?_pos,-List.length_eq_zero_iff,-Int.natCast_eq_zero,wrap64,v_mk_Gates,n1]
 refine go_loop (fun s:List Gt × List Gs × Int × Nat => v_mk_Gates_s0 (.gptr 0 0) (.slice (some 1023) 3 (s.1.map Gt.row)) (.slice (some 1035) 2 (s.2.1.map Gs.row)) s.2.2.1 s.1.length s.2.1.length [dk l s.2.2.2])
  (fun s => Gws s.1 s.2.1 ∧ (s.1.length:Int) + s.2.2.1 ≤ m ∧ 0 ≤ s.2.2.1 ∧ okd l s.2.2.2) (fun s => s.2.2.1.toNat) ([],[],n,k1) rfl (by simp) ⟨⟨rfl,by simp,by simp⟩,by simp;omega,by simp;omega,hd1⟩ ?_
 rintro ⟨a,b,n,k⟩ ⟨hab,h1,h2,hd⟩
 simp only at hab h1 h2 hd
 obtain ⟨g,k2,n2,hd2,hg⟩:=c_mk_Gate hd
 have hgv:=(gv_of hg).most
 obtain ⟨p,k3,n3,hd3,hp⟩:=c_Next hd2 (g.most + 1) (by omega)
 obtain ⟨q,k4,n4,hd4,hq⟩:=c_Next hd3 7 (by omega)
 have hl:=hab.len
 simp +contextual (disch:=omega) [-getElem?_pos,-List.length_eq_zero_iff,-Int.natCast_eq_zero,wrap64,v_mk_Gates_b0]
 refine cnd_dec (fun h4 => ?_) (fun h4 => ?_)
 ·simp +contextual (disch:=omega) [-getElem?_pos,-List.length_eq_zero_iff,-Int.natCast_eq_zero,wrap64,n2,n3,n4]
  refine rnd_next (a ++ [g],b ++ [⟨p,decide (q = 6)⟩],n - 1,k4) (by simp) ⟨⟨by simp [hl],fun i hi => ?_,fun i hi => ?_⟩,by simp;omega,by simp;omega,hd4⟩ (by simp;omega)
  ·simp at hi
   rw [nth_app]
   split
   ·exact hab.gate i (by assumption)
   ·rw [if_pos (by omega)];exact hg
  ·simp at hi
   rw [nth_app,nth_app,← hl]
   split
   ·exact hab.state i (by assumption)
   ·rw [if_pos (by omega),if_pos (by omega)]
    show 0 ≤ p ∧ p ≤ g.most
    omega
 ·exact hQ a b k hd hab (by omega)
end Go.Proofs.YtfjdfnegookkcaaGreat
namespace Go.Proofs.YtfjdfnegookkcaaGreat
set_option linter.all false
open Go.Vm
attribute [local simp] cond_yes cond_yes2 int_beq int_bne
structure Dw (d:Dm) (s:Ds):Prop where
 chk:dChk d = 0
 fit:dfit d s
 units:Uws d.u s.u
 u2:d.u.length ≤ 2
 g2:d.g.length ≤ 2
 gr:1 ≤ d.gr ∧ d.gr ≤ 4
 rel:0 ≤ s.rel ∧ s.rel ≤ 29
 top:dCr d ≤ 10000
theorem c_mk_Dam {l:List Int} {k:Nat} (hd:okd l k):∃ d s k',Lim F 8 [.gptr 0 0] [dk l k] = some (.tuple [dm d,dst s],[dk l k']) ∧ okd l k' ∧ Dw d s:=by
 suffices h:∀ Q:V → List GObj → Prop,(∀ d s k',okd l k' → Dw d s → Q (.tuple [dm d,dst s]) [dk l k']) → Ret (Lim F) 8 [.gptr 0 0] [dk l k] Q by
  obtain ⟨_,_,h,d,s,k',rfl,rfl,h1⟩:=h (fun v G => ∃ d s k',v = .tuple [dm d,dst s] ∧ G = [dk l k'] ∧ okd l k' ∧ Dw d s) fun d s k' a b => ⟨d,s,k',rfl,rfl,a,b⟩
  exact ⟨d,s,k',h,h1⟩
 intro Q hQ
 refine ret_of rfl rfl ?_
 obtain ⟨r,k1,n1,hd1,hr,hry⟩:=c_mk_Reservoir hd
 obtain ⟨a,k2,n2,hd2,ha⟩:=c_Next hd1 4 (by omega)
 obtain ⟨us,ss,k3,n3,hd3,hus,hu2⟩:=c_mk_Units (m:=2) hd2 (by omega)
 obtain ⟨gs,ts,k4,n4,hd4,hgs,hg2⟩:=c_mk_Gates (m:=2) hd3 (by omega)
 rw [show ((2:Nat):Int) = 2 from rfl] at n3 n4
 have hv:=vol_range hr r.t
 have hwt:=sWr_t hr
 obtain ⟨v,k5,n5,hd5,hv5⟩:=c_Next hd4 (cval r.c r.t + 1) (by omega)
 obtain ⟨e,k6,n6,hd6,he6⟩:=c_Next hd5 30 (by omega)
 have hV:=c_r03_Volume r r.t []
 simp +contextual (disch:=omega) [-getElem?_pos,-List.length_eq_zero_iff,-Int.natCast_eq_zero,wrap64,v_mk_Dam,n1,n2,n3,n4,hV,hwt,hr,n5,n6]
 refine hQ ⟨r,us,gs,1 + a⟩ ⟨v,e,ss,ts⟩ k6 hd6 ?_
 have hc:dChk ⟨r,us,gs,1 + a⟩ = 0:=by
  unfold dChk
  simp only
  rw [if_neg (fun g => g hr),if_neg (by omega),if_neg (fun g => g (fsE_zero fun i _ hi => (hus.unit i (by omega)).chk)),if_neg (fun g => g (fsE_zero fun i _ hi => hgs.gate i (by omega))),if_neg (by omega)]
 refine ⟨hc,⟨⟨hv5.1,?_⟩,?_,hus.len.symm,hgs.len.symm,hus.state,hgs.state⟩,hus,hu2,hg2,?_,?_,?_⟩
 ·show v ≤ cval r.c r.t
  omega
 ·simp only;omega
 ·simp only;omega
 ·simp only;omega
 ·have:=(cval_range (cv_of (sChk_c hr)) r.t).2
  show cval r.c r.t ≤ 10000
  omega
end Go.Proofs.YtfjdfnegookkcaaGreat
namespace Go.Proofs.YtfjdfnegookkcaaGreat
set_option linter.all false
open Go.Vm
attribute [local simp] cond_yes cond_yes2 int_beq int_bne
theorem setF_none (lv w:Int):setF [] [] lv w = 0:=by
 unfold setF
 split
 ·simp [bs,gsum_zero]
 ·rfl
theorem c_step_bare {r:Rs} {gr v rel0 inf los rel:Int} (hr:sChk r = 0) (hg:1 ≤ gr ∧ gr ≤ 1073741824) (hv:0 ≤ v ∧ v ≤ cval r.c r.t) (h0:0 ≤ rel0 ∧ rel0 ≤ 1073741824) (hi:0 ≤ inf ∧ inf ≤ 1073741824) (hl:0 ≤ los ∧ los ≤ 1073741824) (hq:0 ≤ rel ∧ rel ≤ 1073741824) :
  ∃ x y z G',Lim F 11 [.agg [pts r.c,i64 r.d,i64 r.l,i64 r.f,i64 r.s,i64 r.t,.slice none 6 [],.slice none 3 [],i64 gr],.agg [i64 v,i64 rel0,.slice none 3 [],.slice none 2 []],i64 inf,i64 los,i64 rel] [] =
    some (.tuple [.agg [i64 (min (cval r.c r.t) (max 0 (v + inf - los))),i64 x,y,z],dr ⟨inf,min los (v + inf),0,0,max 0 (v + inf - los) - min (cval r.c r.t) (max 0 (v + inf - los)),0,0⟩,i64 0],G') ∧ sts [] = y ∧ (∃ e,gss e = z):=by
 have hc:dChk ⟨r,[],[],gr⟩ = 0:=by
  unfold dChk
  simp only
  rw [if_neg (fun g => g hr),if_neg (by simp),if_neg (fun g => g rfl),if_neg (fun g => g rfl),if_neg (by omega)]
 have hf:dfit ⟨r,[],[],gr⟩ ⟨v,rel0,[],[]⟩:=⟨hv,h0,rfl,rfl,fun i h => by simp at h,fun i h => by simp at h⟩
 have hd:dE ⟨r,[],[],gr⟩ ⟨v,rel0,[],[]⟩ = 0:=by
  unfold dE
  rw [if_neg (fun g => g hc),if_pos hf]
 have ho:[inf,los,rel].any out1 = false:=by simp [out1];omega
 have he:stE' ⟨r,[],[],gr⟩ ⟨v,rel0,[],[]⟩ inf los rel = 0:=by
  unfold stE'
  rw [if_neg (fun g => g hd),ho]
  rfl
 obtain ⟨G',h⟩:=c_dam_Step ⟨r,[],[],gr⟩ ⟨v,rel0,[],[]⟩ inf los rel
 unfold stAns at h
 rw [if_pos he] at h
 have hL:stL ⟨v,rel0,[],[]⟩ inf los = max 0 (v + inf - los):=by unfold stL;simp only;omega
 have hT:stT ⟨r,[],[],gr⟩ ⟨v,rel0,[],[]⟩ inf los rel = 0:=rfl
 have hP:stP ⟨r,[],[],gr⟩ ⟨v,rel0,[],[]⟩ inf los rel = 0:=by
  unfold stP spl
  rw [hT,setF_none]
  unfold fre
  omega
 have hC:dCr ⟨r,[],[],gr⟩ = cval r.c r.t:=rfl
 have hO:stO ⟨r,[],[],gr⟩ ⟨v,rel0,[],[]⟩ inf los rel = max 0 (v + inf - los) - min (cval r.c r.t) (max 0 (v + inf - los)):=by
  unfold stO
  rw [hT,hP,hL,hC]
  omega
 have hS:stS ⟨r,[],[],gr⟩ ⟨v,rel0,[],[]⟩ inf los rel = ⟨min (cval r.c r.t) (max 0 (v + inf - los)),min (0 + 0) 1073741824,[],setS [] [] (hgt r v) (wnt ⟨r,[],[],gr⟩ rel (max 0 (v + inf - los)) 0)⟩:=by
  unfold stS
  rw [hT,hP,hO,hL]
  congr 1
  omega
 have hR:stR ⟨r,[],[],gr⟩ ⟨v,rel0,[],[]⟩ inf los rel = ⟨inf,min los (v + inf),0,0,max 0 (v + inf - los) - min (cval r.c r.t) (max 0 (v + inf - los)),0,0⟩:=by
  unfold stR
  rw [hT,hP,hO]
  rfl
 rw [hS,hR] at h
 exact ⟨_,_,_,G',h,rfl,⟨_,rfl⟩⟩
theorem c_awake22:Lim F 15 [] [] = some (.bool true,[]) :=
 eq_of rfl rfl (by
  have hr:sChk ⟨[⟨100,0⟩,⟨200,1000⟩],100,120,150,180,200⟩ = 0:=by kernel_rfl
  have hc:cval [⟨100,0⟩,⟨200,1000⟩] 200 = 1000:=by kernel_rfl
  obtain ⟨x,y,z,G',h,e,⟨e2,e3⟩⟩:=c_step_bare hr (gr:=1) (v:=900) (rel0:=0) (inf:=300) (los:=50) (rel:=10) (by omega) (by simp only [hc];omega) (by omega) (by omega) (by omega) (by omega)
  subst e e3
  simp only at h
  rw [hc,show min (1000:Int) (max 0 (900 + 300 - 50)) = 1000 by omega,show max (0:Int) (900 + 300 - 50) - 1000 = 150 by omega,show min (50:Int) (900 + 300) = 50 by omega] at h
  have h':Lim F 11 [.agg [.slice none 2 [[i64 100,i64 0],[i64 200,i64 1000]],i64 100,i64 120,i64 150,i64 180,i64 200,.slice none 6 [],.slice none 3 [],i64 1],.agg [i64 900,i64 0,.slice none 3 [],.slice none 2 []],i64 300,i64 50,i64 10] [] =
    some (.tuple [.agg [i64 1000,i64 x,.slice none 3 [],gss e2],.agg [i64 300,i64 50,i64 0,i64 0,i64 150,i64 0,i64 0],i64 0],G'):=h
  have hf:Lim F 14 [.agg [i64 300,i64 50,i64 0,i64 0,i64 150,i64 0,i64 0]] [] = some (i64 150,[]):=c_dam_Flow ⟨300,50,0,0,150,0,0⟩ (by simp) (by simp) (by simp) []
  simp +contextual (disch:=omega) [-getElem?_pos,-List.length_eq_zero_iff,-Int.natCast_eq_zero,wrap64,v_w22_awake,h',hf,V.aeq,eqCells,eqCell])
end Go.Proofs.YtfjdfnegookkcaaGreat
