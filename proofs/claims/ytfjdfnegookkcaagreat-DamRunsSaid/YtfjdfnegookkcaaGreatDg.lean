/- Parts of the proof, joined: Dam7, Dob1, Dam8, Dsm1, Ref4, Ref5, Ref6, Dst1, Drn1, Drn2, Drn3, Raw2. -/
import Derived.Test.YtfjdfnegookkcaaGreatDe
import Derived.Test.YtfjdfnegookkcaaGreatDf
namespace Go.Proofs.YtfjdfnegookkcaaGreat
set_option linter.all false
open Go.Vm
attribute [local simp] cond_yes cond_yes2 int_beq int_bne
theorem nxu_valid {u:Un} {s:Us} (hv:validP u s) (q:Int):validP u (nxu u s q):=by
 have h1:=hv.2.1
 unfold nxu
 split
 ·rename_i hm
  refine ⟨hv.1,?_,?_⟩
  ·unfold nextS;simp only;split <;> omega
  ·unfold nextS;simp only
   unfold mayP at hm
   by_cases hq:q = 0
   ·exact .inl hq
   ·rw [if_neg hq] at hm;exact .inr ⟨hm.1,hm.2.2⟩
 ·exact ⟨hv.1,by simp,.inl rfl⟩
theorem bs_el {lv w:Int} {g:List Gt} {s:List Gs} (hl:g.length = s.length) (hs:allG g s) (hv:∀ i,i < g.length → Gv (nth g i)):∀ i,i ≤ g.length →
  ∀ j,j < g.length → 0 ≤ nth (bs lv w g s i).1 j ∧ nth (bs lv w g s i).1 j ≤ (nth g j).most:=by
 intro i
 induction i with
 | zero =>
   intro _ j hj
   have hr:=rch_ok (hv j hj) (hs j hj)
   simp only [bs]
   rw [gel_nth hj (by omega)]
   omega
 | succ i ih =>
   intro hi j hj
   simp only [bs]
   rw [nth_set (by rw [bs_len hl];omega)]
   split
   ·rename_i e
    subst e
    have hr:=rch_ok (hv i hj) (hs i hj)
    have ho:=opn_range (lv:=lv) (w:=w) (hv i hj) (hs i hj) (bs lv w g s i).2
    omega
   ·exact ih (by omega) j hj
theorem setS_len {g:List Gt} {s:List Gs} {lv w:Int} (h:aE g s lv = 0) (hw:0 ≤ w ∧ w ≤ 1073741824):(setS g s lv w).length = g.length ∧ allG g (setS g s lv w):=by
 obtain ⟨h1,h2,h3,h4,h5⟩:=aE_zero h
 have hE:setE g s lv w = 0:=by simp [setE,h,hw]
 have hS:setS g s lv w = outS (bs lv w g s g.length).1 s:=by unfold setS;rw [if_pos hE]
 have hb:=bs_len (lv:=lv) (w:=w) h2 g.length
 rw [hS]
 refine ⟨by simp [outS];omega,fun i hi => ?_⟩
 unfold outS
 rw [nth_zip (by omega) (by omega)]
 exact bs_el h2 h3 h4 g.length (Nat.le_refl _) i hi
theorem nus_nth {d:Dm} {s:Ds} {m:Int} {n i:Nat} (hi:i < n):nth (nus d s m n) i = nxu (nth d.u i) (nth s.u i) (flw d s m i):=by
 unfold nus
 simp [nth,hi]
theorem stS_fit {d:Dm} (h:Dv d) {s:Ds} (hf:dfit d s) {inf los rel:Int} (hi:0 ≤ inf ∧ inf ≤ 1073741824) (hl:0 ≤ los ∧ los ≤ 1073741824) (hr:0 ≤ rel ∧ rel ≤ 1073741824):dfit d (stS d s inf los rel):=by
 have p:=stp_of h hf hi hl hr
 have hv:=hf.1
 have hC:=dCr_range h.r
 have hD:=dDd_range h.r
 have hT:=p.T0
 have hP:=p.P0
 have hs:=p.sum
 have hL:=p.L
 have hfr:fre d (stL s inf los) ≤ stL s inf los:=by unfold fre;omega
 have hO:stO d s inf los rel = max (stL s inf los - (stT d s inf los rel + stP d s inf los rel) - dCr d) 0:=rfl
 have hg:=setS_len (aE_dam h hf) p.w0
 refine ⟨?_,?_,nus_len,hg.1,fun i hi => ?_,hg.2⟩
 ·show 0 ≤ stL s inf los - (stT d s inf los rel + stP d s inf los rel) - stO d s inf los rel ∧ stL s inf los - (stT d s inf los rel + stP d s inf los rel) - stO d s inf los rel ≤ dCr d
  omega
 ·show 0 ≤ min (stT d s inf los rel + stP d s inf los rel) 1073741824 ∧ min (stT d s inf los rel + stP d s inf los rel) 1073741824 ≤ 1073741824
  omega
 ·show validP (nth d.u i) (nth (nus d s _ d.u.length) i)
  rw [nus_nth hi]
  exact nxu_valid (hf.2.2.2.2.1 i hi) _
def balL (a b:Ds) (r:Dr):List Int:=[a.v,b.v,r.inf,r.los,r.tur,r.spi,r.ovr]
def balIn (n:Int):Prop:=0 ≤ n ∧ n ≤ 274877906944
instance {n:Int}:Decidable (balIn n):=inferInstanceAs (Decidable (_ ∧ _))
def balP (a b:Ds) (r:Dr):Prop:=(∀ i,i < 7 → balIn (nth (balL a b r) i)) ∧ b.v = a.v + r.inf - r.los - r.tur - r.spi - r.ovr
noncomputable instance {a b:Ds} {r:Dr}:Decidable (balP a b r):=Classical.propDecidable _
theorem c_dam_Balance (a b:Ds) (r:Dr) (G:List GObj):Lim F 12 [dst a,dst b,dr r] G = some (.bool (decide (balP a b r)),G) :=
 eq_of rfl rfl (by
  generalize hW:decide (balP a b r) = W
  simp +contextual (disch:=omega) [-getElem?_pos,-List.length_eq_zero_iff,-Int.natCast_eq_zero,wrap64,v_dam_Balance]
  have hic:icells (balL a b r) = [i64 a.v,i64 b.v,i64 r.inf,i64 r.los,i64 r.tur,i64 r.spi,i64 r.ovr]:=rfl
  refine go_loop (fun i:Nat => v_dam_Balance_s0 (.agg (icells (balL a b r))) i a.row b.row r.row G) (fun i => i ≤ 7 ∧ ∀ j,j < i → balIn (nth (balL a b r) j)) (fun i => 7 - i) 0 rfl (by simp [hic]) ⟨by omega,by omega⟩ ?_
  rintro i ⟨hi,hj⟩
  have hlen:(balL a b r).length = 7:=rfl
  simp +contextual (disch:=omega) [-getElem?_pos,-List.length_eq_zero_iff,-Int.natCast_eq_zero,wrap64,v_dam_Balance_b0]
  refine cnd_dec (fun h1 => ?_) (fun h1 => ?_)
  ·have h1:i < 7:=by omega
   by_cases h2:balIn (nth (balL a b r) i)
   ·have h3:(decide (0 ≤ nth (balL a b r) i) && decide (nth (balL a b r) i ≤ 274877906944)) = true:=by simp;exact h2
    simp +contextual (disch:=omega) [-getElem?_pos,-List.length_eq_zero_iff,-Int.natCast_eq_zero,wrap64,icells_get,hlen,h1,c_quantity_Within,h3]
    refine rnd_next (i + 1) (by simp) ⟨by omega,fun j hj2 => ?_⟩ (by omega)
    rcases Nat.lt_or_ge j i with h4 | h4
    ·exact hj j h4
    ·rwa [show j = i by omega]
   ·have h3:(decide (0 ≤ nth (balL a b r) i) && decide (nth (balL a b r) i ≤ 274877906944)) = false:=by
     have h2:¬ (0 ≤ nth (balL a b r) i ∧ nth (balL a b r) i ≤ 274877906944):=h2
     simp;omega
    simp +contextual (disch:=omega) [-getElem?_pos,-List.length_eq_zero_iff,-Int.natCast_eq_zero,wrap64,icells_get,hlen,h1,c_quantity_Within,h3]
    rw [← hW,decide_eq_false (fun h:balP a b r => h2 (h.1 i h1))]
  ·have hj:∀ j,j < 7 → balIn (nth (balL a b r) j):=fun j h => hj j (by omega)
   have b0:0 ≤ a.v ∧ a.v ≤ 274877906944:=hj 0 (by omega)
   have b1:0 ≤ b.v ∧ b.v ≤ 274877906944:=hj 1 (by omega)
   have b2:0 ≤ r.inf ∧ r.inf ≤ 274877906944:=hj 2 (by omega)
   have b3:0 ≤ r.los ∧ r.los ≤ 274877906944:=hj 3 (by omega)
   have b4:0 ≤ r.tur ∧ r.tur ≤ 274877906944:=hj 4 (by omega)
   have b5:0 ≤ r.spi ∧ r.spi ≤ 274877906944:=hj 5 (by omega)
   have b6:0 ≤ r.ovr ∧ r.ovr ≤ 274877906944:=hj 6 (by omega)
   simp (disch:=omega) only [wrap64]
   rw [← hW]
   refine decide_eq_decide.2 ⟨fun h => ⟨hj,h⟩,fun h => h.2⟩)
end Go.Proofs.YtfjdfnegookkcaaGreat
namespace Go.Proofs.YtfjdfnegookkcaaGreat
set_option linter.all false
open Go.Vm
theorem obeys {d:Dm} (h:Dv d) {s:Ds} (hf:dfit d s) {rel:Int} (hr:0 ≤ rel ∧ rel ≤ 1073741824) :
  stT d s 0 0 rel + stP d s 0 0 rel ≤ max 0 (s.v - dDd d) ∧ stO d s 0 0 rel = 0 ∧ (stS d s 0 0 rel).v = s.v - stT d s 0 0 rel - stP d s 0 0 rel ∧
  (0 ≤ stT d s 0 0 rel ∧ stT d s 0 0 rel ≤ 1099511627776) ∧ (0 ≤ stP d s 0 0 rel ∧ stP d s 0 0 rel ≤ 1099511627776) ∧
  (d.u.length = 0 → min (min rel (max 0 (s.v - dDd d))) (canB d s) ≤ stP d s 0 0 rel):=by
 have p:=stp_of h hf (inf:=0) (los:=0) (rel:=rel) (by omega) (by omega) hr
 have hv:=hf.1
 have hL:=p.L
 have hL:stL s 0 0 = s.v:=by omega
 have hF:fre d (stL s 0 0) = max 0 (s.v - dDd d):=by rw [hL];unfold fre;omega
 have hs:=p.sum
 have hT:=p.T0
 have hTr:=p.Tr
 have hP:=p.P0
 have hP1:=p.P1
 rw [hF] at hs
 have hO:stO d s 0 0 rel = 0:=by unfold stO;rw [hL];omega
 refine ⟨hs,hO,?_,⟨hT,by omega⟩,⟨hP,by omega⟩,fun hu => ?_⟩
 ·show stL s 0 0 - (stT d s 0 0 rel + stP d s 0 0 rel) - stO d s 0 0 rel = _
  rw [hO,hL];omega
 ·have hT0:stT d s 0 0 rel = 0:=by unfold stT;rw [hu];rfl
  have he:dE d s = 0:=by
   unfold dE
   have hc:dChk d = 0:=by
    unfold dChk
    rw [if_neg (fun g => g h.r),if_neg (by have:=h.g;omega),if_neg (fun g => g (fsE_zero fun i _ hi => h.uv i (by omega))),if_neg (fun g => g (fsE_zero fun i _ hi => h.gv i (by omega))),if_neg (by have:=h.gr;omega)]
   rw [if_neg (fun g => g hc),if_pos hf]
  have hc:canB d s = uHi d.u s.u d.gr + gMost d.g s.g (hgt d.r s.v):=by simp [canB,lvl,he]
  have hu0:uHi d.u s.u d.gr = 0:=by
   have hu1:d.u = []:=List.length_eq_zero_iff.1 hu
   unfold uHi
   split
   ·simp [hiS,hu1]
   ·rfl
  have hm:=setF_most d.g s.g (hgt d.r s.v) (wnt d rel (stL s 0 0) (stT d s 0 0 rel)) p.w0
  have hw:wnt d rel (stL s 0 0) (stT d s 0 0 rel) = min rel (max 0 (s.v - dDd d)):=by unfold wnt;rw [hF,hT0];omega
  have hPe:stP d s 0 0 rel = min (setF d.g s.g (hgt d.r s.v) (wnt d rel (stL s 0 0) (stT d s 0 0 rel))) (fre d (stL s 0 0) - stT d s 0 0 rel):=rfl
  rw [hPe,hF,hT0]
  rw [hT0] at hm hw
  rw [hw] at hm ⊢
  rw [hc,hu0]
  omega
theorem stAns_ok {d:Dm} (hc:dChk d = 0) {s:Ds} (hf:dfit d s) {inf los rel:Int} (hi:0 ≤ inf ∧ inf ≤ 1073741824) (hl:0 ≤ los ∧ los ≤ 1073741824) (hr:0 ≤ rel ∧ rel ≤ 1073741824) :
  stAns d s inf los rel = .tuple [dst (stS d s inf los rel),dr (stR d s inf los rel),i64 0]:=by
 have hd:dE d s = 0:=by unfold dE;rw [if_neg (fun g => g hc),if_pos hf]
 have ho:[inf,los,rel].any out1 = false:=by simp [out1];omega
 have he:stE' d s inf los rel = 0:=by unfold stE';rw [if_neg (fun g => g hd),ho];rfl
 unfold stAns
 rw [if_pos he]
end Go.Proofs.YtfjdfnegookkcaaGreat
namespace Go.Proofs.YtfjdfnegookkcaaGreat
set_option linter.all false
open Go.Vm
attribute [local simp] cond_yes cond_yes2 int_beq int_bne
theorem c_clone_us (s:List Us) (hs:s.length ≤ 1000) (G:List GObj):Lim F 65 [sts s] G = some (stsO s,G):=by
 cases s with
 | nil =>
   refine eq_of_split (p:=0) (m:=3) rfl rfl rfl rfl ?_ ?_
   ·simp +contextual (disch:=omega) [-getElem?_pos,-List.length_eq_zero_iff,-Int.natCast_eq_zero,wrap64,v_slices_Clone_api_UnitState_api_UnitState]
   ·simp +contextual (disch:=omega) [-getElem?_pos,-List.length_eq_zero_iff,-Int.natCast_eq_zero,wrap64,v_slices_Clone_api_UnitState_api_UnitState]
 | cons a s =>
   have hs:s.length + 1 ≤ 1000:=by simpa using hs
   show Lim F 65 [.slice none 3 (a.row :: s.map Us.row)] G = some (.slice (some 0) 3 (a.row :: s.map Us.row),G)
   refine eq_of_nosplit (p:=0) rfl rfl rfl (fun m => by simp) ?_
   simp +contextual (disch:=omega) [-getElem?_pos,-List.length_eq_zero_iff,-Int.natCast_eq_zero,wrap64,v_slices_Clone_api_UnitState_api_UnitState]
theorem c_clone_gs (s:List Gs) (hs:s.length ≤ 1000) (G:List GObj):Lim F 66 [gss s] G = some (gssO s,G):=by
 cases s with
 | nil =>
   refine eq_of_split (p:=0) (m:=2) rfl rfl rfl rfl ?_ ?_
   ·simp +contextual (disch:=omega) [-getElem?_pos,-List.length_eq_zero_iff,-Int.natCast_eq_zero,wrap64,v_slices_Clone_api_GateState_api_GateState]
   ·simp +contextual (disch:=omega) [-getElem?_pos,-List.length_eq_zero_iff,-Int.natCast_eq_zero,wrap64,v_slices_Clone_api_GateState_api_GateState]
 | cons a s =>
   have hs:s.length + 1 ≤ 1000:=by simpa using hs
   show Lim F 66 [.slice none 2 (a.row :: s.map Gs.row)] G = some (.slice (some 0) 2 (a.row :: s.map Gs.row),G)
   refine eq_of_nosplit (p:=0) rfl rfl rfl (fun m => by simp) ?_
   simp +contextual (disch:=omega) [-getElem?_pos,-List.length_eq_zero_iff,-Int.natCast_eq_zero,wrap64,v_slices_Clone_api_GateState_api_GateState]
noncomputable def rnS (d:Dm) (s:Ds) (A B C:List Int):Nat → Ds
 | 0 => s
 | i + 1 => stS d (rnS d s A B C i) (nth A i) (nth B i) (nth C i)
noncomputable def rnR (d:Dm) (s:Ds) (A B C:List Int) (i:Nat):Dr:=stR d (rnS d s A B C i) (nth A i) (nth B i) (nth C i)
noncomputable def rnL (d:Dm) (s:Ds) (A B C:List Int) (n:Nat):List Dr:=(List.range n).map (rnR d s A B C)
theorem rnL_succ {d:Dm} {s:Ds} {A B C:List Int} {n:Nat}:rnL d s A B C (n + 1) = rnL d s A B C n ++ [rnR d s A B C n]:=by simp [rnL,List.range_succ]
theorem rnL_len {d:Dm} {s:Ds} {A B C:List Int} {n:Nat}:(rnL d s A B C n).length = n:=by simp [rnL]
def inR (A:List Int):Prop:=∀ i,i < A.length → 0 ≤ nth A i ∧ nth A i ≤ 1073741824
abbrev drs (l:List Dr):V:=.slice (some 0) 7 (l.map Dr.row)
theorem c_dam_Run {d:Dm} (hc:dChk d = 0) {s:Ds} (hf:dfit d s) {A B C:List Int} (hb:A.length = B.length) (hcl:A.length = C.length) (hn:A.length ≤ 4096) (ha:inR A) (hb':inR B) (hc':inR C) :
  Lim F 29 [dm d,dst s,ints A,ints B,ints C] [] = some (.tuple [dst (rnS d s A B C A.length),drs (rnL d s A B C A.length),i64 0],[]) ∧ dfit d (rnS d s A B C A.length):=by
 have hdv:=dv_of hc
 have hd:dE d s = 0:=by unfold dE;rw [if_neg (fun g => g hc),if_pos hf]
 have hu6:=hdv.u
 have hg8:=hdv.g
 have hul:=hf.2.2.1
 have hgl:=hf.2.2.2.1
 have fit:∀ i,i ≤ A.length → dfit d (rnS d s A B C i):=by
  intro i
  induction i with
  | zero => intro _;exact hf
  | succ i ih => intro hi;exact stS_fit hdv (ih (by omega)) (ha i (by omega)) (hb' i (by omega)) (hc' i (by omega))
 refine ⟨?_,fit _ (Nat.le_refl _)⟩
 refine eq_of rfl rfl ?_
 have b1:(B.length:Int) = A.length:=by omega
 have b2:(C.length:Int) = A.length:=by omega
 have b3:¬ (4096:Int) < A.length:=by omega
 have hcu:=c_clone_us s.u (by omega) []
 have hcg:=c_clone_gs s.g (by omega) []
 simp +contextual (disch:=omega) [-getElem?_pos,-List.length_eq_zero_iff,-Int.natCast_eq_zero,wrap64,v_dam_Run,b1,b2,b3,c_dam_asked,hd,hcu,hcg]
 refine go_loop (fun i:Nat => v_dam_Run_s0 (ints A) (ints B) (ints C) (.slice (some 1089) 7 ((rnL d s A B C i).map Dr.row)) A.length i d.row [i64 0,i64 0,.nils,.nils] (rnS d s A B C i).row i []) (fun i => i ≤ A.length) (fun i => A.length - i) 0 rfl (by simp [rnS,rnL]) (by omega) ?_
 intro i hi
 have hll:=rnL_len (d:=d) (s:=s) (A:=A) (B:=B) (C:=C) (n:=i)
 obtain ⟨G1,hS⟩:=c_dam_Step d (rnS d s A B C i) (nth A i) (nth B i) (nth C i)
 simp +contextual (disch:=omega) [-getElem?_pos,-List.length_eq_zero_iff,-Int.natCast_eq_zero,wrap64,v_dam_Run_b0]
 refine cnd_dec (fun h5 => ?_) (fun h5 => ?_)
 ·have h5:i < A.length:=by omega
  have h6:i < B.length:=by omega
  have h7:i < C.length:=by omega
  rw [stAns_ok hc (fit i hi) (ha i h5) (hb' i h6) (hc' i h7)] at hS
  simp +contextual (disch:=omega) [-getElem?_pos,-List.length_eq_zero_iff,-Int.natCast_eq_zero,wrap64,get_int (l:=A),get_int (l:=B),get_int (l:=C),hS,hll]
  exact rnd_next (i + 1) (by simp [rnL_succ,rnS,rnR]) (by omega) (by omega)
 ·obtain rfl:i = A.length:=by omega
  simp +contextual (disch:=omega) [-getElem?_pos,-List.length_eq_zero_iff,-Int.natCast_eq_zero,wrap64,hll]
end Go.Proofs.YtfjdfnegookkcaaGreat
namespace Go.Proofs.YtfjdfnegookkcaaGreat
set_option linter.all false
open Go.Vm
attribute [local simp] cond_yes cond_yes2 int_beq int_bne
theorem c_mk_Flows' {l:List Int} {k:Nat} (hd:okd l k) {n:Nat} {m:Int} (hn:n ≤ 1000) (hm:1 ≤ m ∧ m ≤ 1000000):∃ f k',Lim F 28 [.gptr 0 0,i64 n,i64 m] [dk l k] = some (own f,[dk l k']) ∧ okd l k' ∧ f.length = n ∧ inR f:=by
 suffices h:∀ Q:V → List GObj → Prop,(∀ f k',okd l k' → f.length = n → inR f → Q (own f) [dk l k']) → Ret (Lim F) 28 [.gptr 0 0,i64 n,i64 m] [dk l k] Q by
  obtain ⟨_,_,h,f,k',rfl,rfl,h1⟩:=h (fun v G => ∃ f k',v = own f ∧ G = [dk l k'] ∧ okd l k' ∧ f.length = n ∧ inR f) fun f k' h1 h2 h3 => ⟨f,k',rfl,rfl,h1,h2,h3⟩
  exact ⟨f,k',h,h1⟩
 intro Q hQ
 refine ret_of rfl rfl ?_
 simp +contextual (disch:=omega) [-getElem?_pos,-List.length_eq_zero_iff,-Int.natCast_eq_zero,wrap64,v_mk_Flows]
 refine go_loop (fun s:List Int × Nat => v_mk_Flows_s0 (.gptr 0 0) m (.slice (some 1016) 1 (s.1.map fun n => [i64 n])) n s.1.length s.1.length [dk l s.2]) (fun s => s.1.length ≤ n ∧ okd l s.2 ∧ inR s.1) (fun s => n - s.1.length) ([],k) rfl (by simp) ⟨by simp,hd,fun i hi => by simp at hi⟩ ?_
 rintro ⟨f,k⟩ ⟨h1,hd,h2⟩
 simp only at h1 hd h2
 obtain ⟨a,k2,n2,hd2,ha⟩:=c_Next hd m (by omega)
 simp +contextual (disch:=omega) [-getElem?_pos,-List.length_eq_zero_iff,-Int.natCast_eq_zero,wrap64,v_mk_Flows_b0]
 refine cnd_dec (fun h4 => ?_) (fun h4 => ?_)
 ·simp +contextual (disch:=omega) [-getElem?_pos,-List.length_eq_zero_iff,-Int.natCast_eq_zero,wrap64,n2]
  refine rnd_next (f ++ [a],k2) (by simp) ⟨by simp;omega,hd2,fun i hi => ?_⟩ (by simp;omega)
  simp only at hi ⊢
  simp at hi
  rw [nth_app]
  split
  ·exact h2 i (by assumption)
  ·rw [if_pos (by omega)];omega
 ·exact hQ f k hd (by omega) h2
theorem rnS_take {d:Dm} {s:Ds} {A B C:List Int} {m:Nat}:∀ i,i ≤ m → rnS d s (A.take m) (B.take m) (C.take m) i = rnS d s A B C i
 | 0,_ => rfl
 | i + 1,h => by
   simp only [rnS]
   rw [rnS_take i (by omega),nth_take (by omega),nth_take (by omega),nth_take (by omega)]
theorem nth_drop' {α:Type} [Inhabited α] {l:List α} {i k:Nat}:nth (l.drop k) i = nth l (k + i):=by simp [nth,List.getElem?_drop]
theorem rnS_drop {d:Dm} {s:Ds} {A B C:List Int} {m:Nat}:∀ i,rnS d (rnS d s A B C m) (A.drop m) (B.drop m) (C.drop m) i = rnS d s A B C (m + i)
 | 0 => rfl
 | i + 1 => by
   rw [← Nat.add_assoc]
   simp only [rnS]
   rw [rnS_drop i,nth_drop',nth_drop',nth_drop']
theorem rnL_take {d:Dm} {s:Ds} {A B C:List Int} {m:Nat}:rnL d s (A.take m) (B.take m) (C.take m) m = rnL d s A B C m:=by
 unfold rnL
 refine List.map_congr_left fun i hi => ?_
 have hi:=List.mem_range.1 hi
 unfold rnR
 rw [rnS_take i (by omega),nth_take hi,nth_take hi,nth_take hi]
theorem rnL_drop {d:Dm} {s:Ds} {A B C:List Int} {m n:Nat}:rnL d s A B C m ++ rnL d (rnS d s A B C m) (A.drop m) (B.drop m) (C.drop m) n = rnL d s A B C (m + n):=by
 unfold rnL
 rw [List.range_add,List.map_append,List.map_map]
 congr 1
 refine List.map_congr_left fun i _ => ?_
 unfold rnR
 rw [rnS_drop,nth_drop',nth_drop',nth_drop']
 rfl
theorem inR_take {A:List Int} (h:inR A) (m:Nat):inR (A.take m):=fun i hi => by
 simp at hi
 rw [nth_take (by omega)]
 exact h i (by omega)
theorem inR_drop {A:List Int} (h:inR A) (m:Nat):inR (A.drop m):=fun i hi => by
 simp at hi
 rw [nth_drop']
 exact h _ (by omega)
theorem c_r20_Same_refl (g:List Gs) (hg:g.length ≤ 1000) (G:List GObj):Lim F 64 [gss g,gss g] G = some (.bool true,G) :=
 eq_of rfl rfl (by
  simp +contextual (disch:=omega) [-getElem?_pos,-List.length_eq_zero_iff,-Int.natCast_eq_zero,wrap64,v_r20_Same]
  refine go_loop (fun i:Nat => v_r20_Same_s0 (gss g) (gss g) g.length i G) (fun i => i ≤ g.length) (fun i => g.length - i) 0 rfl (by simp) (by omega) ?_
  intro i hi
  simp +contextual (disch:=omega) [-getElem?_pos,-List.length_eq_zero_iff,-Int.natCast_eq_zero,wrap64,v_r20_Same_b0]
  refine cnd_dec (fun h5 => ?_) (fun h5 => ?_)
  ·have h5:i < g.length:=by omega
   simp +contextual (disch:=omega) [-getElem?_pos,-List.length_eq_zero_iff,-Int.natCast_eq_zero,wrap64,get_nth (l:=g),V.aeq,eqCells,eqCell]
   refine rnd_next (i + 1) (by simp) (by omega) (by omega)
  ·trivial)
theorem c_r22_Same_refl (s:Ds) (hu:s.u.length ≤ 1000) (hg:s.g.length ≤ 1000) (G:List GObj):Lim F 27 [dst s,dst s] G = some (.bool true,G) :=
 eq_of rfl rfl (by
  have h:=c_r20_Same_refl s.g hg []
  simp +contextual (disch:=omega) [-getElem?_pos,-List.length_eq_zero_iff,-Int.natCast_eq_zero,wrap64,v_r22_Same,h]
  refine go_loop (fun i:Nat => v_r22_Same_s0 s.u.length i s.row s.row G) (fun i => i ≤ s.u.length) (fun i => s.u.length - i) 0 rfl (by simp) (by omega) ?_
  intro i hi
  simp +contextual (disch:=omega) [-getElem?_pos,-List.length_eq_zero_iff,-Int.natCast_eq_zero,wrap64,v_r22_Same_b0]
  refine cnd_dec (fun h5 => ?_) (fun h5 => ?_)
  ·have h5:i < s.u.length:=by omega
   simp +contextual (disch:=omega) [-getElem?_pos,-List.length_eq_zero_iff,-Int.natCast_eq_zero,wrap64,get_nth (l:=s.u),V.aeq,eqCells,eqCell]
   refine rnd_next (i + 1) (by simp) (by omega) (by omega)
  ·trivial)
theorem c_r22_SameRecords_refl (g:List Dr) (hg:g.length ≤ 5000) (G:List GObj):Lim F 30 [.slice none 7 (g.map Dr.row),.slice none 7 (g.map Dr.row)] G = some (.bool true,G) :=
 eq_of rfl rfl (by
  simp +contextual (disch:=omega) [-getElem?_pos,-List.length_eq_zero_iff,-Int.natCast_eq_zero,wrap64,v_r22_SameRecords]
  refine go_loop (fun i:Nat => v_r22_SameRecords_s0 (.slice none 7 (g.map Dr.row)) (.slice none 7 (g.map Dr.row)) g.length i G) (fun i => i ≤ g.length) (fun i => g.length - i) 0 rfl (by simp) (by omega) ?_
  intro i hi
  simp +contextual (disch:=omega) [-getElem?_pos,-List.length_eq_zero_iff,-Int.natCast_eq_zero,wrap64,v_r22_SameRecords_b0]
  refine cnd_dec (fun h5 => ?_) (fun h5 => ?_)
  ·have h5:i < g.length:=by omega
   simp +contextual (disch:=omega) [-getElem?_pos,-List.length_eq_zero_iff,-Int.natCast_eq_zero,wrap64,get_nth (l:=g),V.aeq,eqCells,eqCell]
   refine rnd_next (i + 1) (by simp) (by omega) (by omega)
  ·trivial)
end Go.Proofs.YtfjdfnegookkcaaGreat
namespace Go.Proofs.YtfjdfnegookkcaaGreat
set_option linter.all false
open Go.Vm
attribute [local simp] cond_yes cond_yes2 int_beq int_bne
theorem ipol_iff {c:List Pt} (h:Cv c) {y x:Int} {i:Nat} (hi:i + 1 < c.length) (h1:(nth c i).y ≤ y) (h2:y < (nth c (i + 1)).y) (hx:(nth c i).x ≤ x):ipol c (i + 1) x ≤ y ↔ x ≤ lpol c y i:=by
 have u1:=h.up (i + 1) (by omega) hi
 simp only [Nat.add_sub_cancel] at u1
 have a2:0 < (y - (nth c i).y + 1) * ((nth c (i + 1)).x - (nth c i).x):=Int.mul_pos (by omega) (by omega)
 have a3:0 ≤ ((nth c (i + 1)).y - (nth c i).y) * (x - (nth c i).x):=Int.mul_nonneg (by omega) (by omega)
 unfold ipol lpol
 simp only [Nat.add_sub_cancel]
 rw [Int.tdiv_eq_ediv_of_nonneg a3,Int.tdiv_eq_ediv_of_nonneg (by omega)]
 have e1:((nth c (i + 1)).y - (nth c i).y) * (x - (nth c i).x) / ((nth c (i + 1)).x - (nth c i).x) < y - (nth c i).y + 1 ↔ ((nth c (i + 1)).y - (nth c i).y) * (x - (nth c i).x) < (y - (nth c i).y + 1) * ((nth c (i + 1)).x - (nth c i).x) :=
  Int.ediv_lt_iff_lt_mul (by omega)
 have e2:x - (nth c i).x ≤ ((y - (nth c i).y + 1) * ((nth c (i + 1)).x - (nth c i).x) - 1) / ((nth c (i + 1)).y - (nth c i).y) ↔ (x - (nth c i).x) * ((nth c (i + 1)).y - (nth c i).y) ≤ (y - (nth c i).y + 1) * ((nth c (i + 1)).x - (nth c i).x) - 1 :=
  Int.le_ediv_iff_mul_le (by omega)
 rw [Int.mul_comm (x - (nth c i).x)] at e2
 constructor
 ·intro g
  have:=e2.2 (by have:=e1.1 (by omega);omega)
  omega
 ·intro g
  have:=e1.2 (by have:=e2.1 (by omega);omega)
  omega
theorem cval_pt {c:List Pt} (h:Cv c) {i:Nat} (hi:i < c.length):cval c (nth c i).x = (nth c i).y:=by
 rcases Nat.eq_zero_or_pos i with rfl | h0
 ·exact cval_first h (Int.le_refl _)
 ·have u:=h.up i h0 hi
  rw [cval_mid h h0 hi (by omega) (Int.le_refl _),ipol,Int.mul_tdiv_cancel _ (by omega)]
  omega
theorem clF_char {c:List Pt} (h:Cv c) {y:Int}:∀ (m i:Nat),i + m = c.length - 1 → (nth c i).y ≤ y → cval c (clF c y m i) ≤ y ∧ ∀ x,clF c y m i < x → x ≤ (nth c (c.length - 1)).x → y < cval c x
 | 0,i,hi,hy => by
   have hp:=h.pos
   unfold clF
   rw [cval_pt h (by omega)]
   obtain rfl:i = c.length - 1:=by omega
   exact ⟨hy,fun x a b => by omega⟩
 | m + 1,i,hi,hy => by
   have hp:=h.pos
   unfold clF
   split
   ·rename_i h2
    have hr:=lpol_range h (i:=i) (by omega) hy h2
    refine ⟨?_,fun x a b => ?_⟩
    ·rw [cval_mid h (i:=i + 1) (by omega) (by omega) (by simpa using hr.1) hr.2]
     exact (ipol_iff h (by omega) hy h2 hr.1).2 (Int.le_refl _)
    ·rcases Int.lt_or_le (nth c (i + 1)).x x with h3 | h3
     ·have:=cval_mono h (show (nth c (i + 1)).x ≤ x by omega)
      rw [cval_pt h (by omega)] at this
      omega
     ·rw [cval_mid h (i:=i + 1) (by omega) (by omega) (by simp only [Nat.add_sub_cancel];omega) h3]
      have:=not_congr (ipol_iff h (x:=x) (by omega) hy h2 (by omega))
      omega
   ·exact clF_char h m (i + 1) (by omega) (by omega)
theorem c_r02_Last {c:List Pt} (h:cChk c = 0) (y:Int) (G:List GObj) :
  Lim F 82 [pts c,i64 y] G = some (.tuple [i64 (if y < (nth c 0).y then 0 else clast c y),.bool (decide ((nth c 0).y ≤ y)),i64 0],G) :=
 eq_of rfl rfl (by
  have hc:=cv_of h
  have hp:=hc.pos
  have hl:=hc.few
  have h3:((c.length:Int) - 1).toNat = c.length - 1:=by omega
  have h4:0 ≤ (c.length:Int) - 1:=by omega
  have h5:c.length - 1 < c.length:=by omega
  have x0:=hc.x0 0 hp
  have x1:=hc.x0 (c.length - 1) h5
  have hxl:=cv_xle hc (i:=0) (j:=c.length - 1) (by omega) h5
  have hA:=fun x => c_r02_at hc x []
  have hA0:=hA (nth c 0).x
  rw [cval_pt hc hp] at hA0
  by_cases h1:y < (nth c 0).y
  ·have h2:¬ (nth c 0).y ≤ y:=by omega
   simp +contextual (disch:=omega) [-getElem?_pos,-List.length_eq_zero_iff,-Int.natCast_eq_zero,wrap64,v_r02_Last,c_r02_Check,h,get_nth (l:=c),hp,h3,h4,h5,hA0,h1,h2]
  ·have h2:(nth c 0).y ≤ y:=by omega
   have hch:=clF_char hc (y:=y) (c.length - 1) 0 (by omega) h2
   have hrg:=clF_range hc (y:=y) (c.length - 1) 0 (by omega) h2
   have hcl:clF c y (c.length - 1) 0 = clast c y:=rfl
   rw [hcl] at hch hrg
   simp +contextual (disch:=omega) [-getElem?_pos,-List.length_eq_zero_iff,-Int.natCast_eq_zero,wrap64,v_r02_Last,c_r02_Check,h,get_nth (l:=c),hp,h3,h4,h5,hA0,h1,h2]
   refine go_loop (fun s:Int × Int => v_r02_Last_s0 (pts c) y s.1 s.2 G) (fun s => (nth c 0).x ≤ s.1 ∧ s.1 ≤ clast c y ∧ clast c y ≤ s.2 ∧ s.2 ≤ (nth c (c.length - 1)).x) (fun s => (s.2 - s.1).toNat) ((nth c 0).x,(nth c (c.length - 1)).x) rfl (by simp) ⟨by simp,hrg.1,hrg.2,by simp⟩ ?_
   rintro ⟨lo,hi⟩ ⟨b1,b2,b3,b4⟩
   simp only at b1 b2 b3 b4
   have d1:0 ≤ (hi - lo).tdiv 2:=Int.tdiv_nonneg (by omega) (by omega)
   have d2:(hi - lo).tdiv 2 = (hi - lo) / 2:=Int.tdiv_eq_ediv_of_nonneg (by omega)
   have hAm:=hA (hi - (hi - lo).tdiv 2)
   simp +contextual (disch:=omega) [-getElem?_pos,-List.length_eq_zero_iff,-Int.natCast_eq_zero,wrap64,v_r02_Last_b0,hAm]
   refine cnd_dec (fun h6 => ?_) (fun h6 => ?_)
   ·refine cnd_dec (fun h7 => ?_) (fun h7 => ?_)
    ·refine rnd_next (hi - (hi - lo).tdiv 2,hi) (by simp) ⟨by simp only;omega,?_,b3,b4⟩ (by simp only;omega)
     simp only
     refine Int.not_lt.1 fun h8 => ?_
     have:=hch.2 _ h8 (by omega)
     omega
    ·refine rnd_next (lo,hi - (hi - lo).tdiv 2 - 1) (by simp) ⟨b1,b2,?_,by simp only;omega⟩ (by simp only;omega)
     simp only
     refine Int.not_lt.1 fun h8 => ?_
     have:=cval_mono hc (show hi - (hi - lo).tdiv 2 ≤ clast c y by omega)
     have:=hch.1
     omega
   ·have:lo = clast c y:=by omega
    subst this
    simp +contextual (disch:=omega) [-getElem?_pos,-List.length_eq_zero_iff,-Int.natCast_eq_zero,wrap64,h1,h2])
theorem c_r03_Level {r:Rs} (h:sChk r = 0) {v:Int} (hv:0 ≤ v ∧ v ≤ 274877906944) (G:List GObj):Lim F 56 [.agg r.cells,i64 v] G = some (.tuple [i64 (hgt r v),i64 0],G) :=
 eq_of rfl rfl (by
  have hp:=(cv_of (sChk_c h)).pos
  have hin:(decide (0 ≤ v) && decide (v ≤ 274877906944)) = true:=by simp;omega
  by_cases h1:v < (nth r.c 0).y
  ·have h2:¬ (nth r.c 0).y ≤ v:=by omega
   simp +contextual (disch:=omega) [-getElem?_pos,-List.length_eq_zero_iff,-Int.natCast_eq_zero,wrap64,v_r03_Level,c_r03_Check,h,c_r01_In,hin,c_r02_Last (sChk_c h),h1,h2,get_nth (l:=r.c),hp,hgt]
  ·have h2:(nth r.c 0).y ≤ v:=by omega
   simp +contextual (disch:=omega) [-getElem?_pos,-List.length_eq_zero_iff,-Int.natCast_eq_zero,wrap64,v_r03_Level,c_r03_Check,h,c_r01_In,hin,c_r02_Last (sChk_c h),h1,h2,get_nth (l:=r.c),hp,hgt])
theorem dCr_vol {d:Dm} (h:sChk d.r = 0):dCr d ≤ 274877906944:=by
 have hc:=cv_of (sChk_c h)
 have h1:=cval_range hc d.r.t
 have hp:=hc.pos
 have h3:=hc.y0 (d.r.c.length - 1) (by omega)
 have:dCr d = cval d.r.c d.r.t:=rfl
 omega
theorem c_r22_Level (d:Dm) (s:Ds) (G:List GObj):Lim F 21 [dm d,dst s] G = some (.tuple [i64 (lvl d s),i64 (dE d s)],G) :=
 eq_of rfl rfl (by
  by_cases hd:dE d s = 0
  ·obtain ⟨hdv,hf⟩:=dE_zero hd
   have hv:=hf.1
   have hC:=dCr_vol hdv.r
   simp +contextual (disch:=omega) [-getElem?_pos,-List.length_eq_zero_iff,-Int.natCast_eq_zero,wrap64,v_r22_Level,c_r22_wrong,hd,c_r03_Level hdv.r,hv,lvl]
  ·simp +contextual (disch:=omega) [-getElem?_pos,-List.length_eq_zero_iff,-Int.natCast_eq_zero,wrap64,v_r22_Level,c_r22_wrong,hd,lvl])
end Go.Proofs.YtfjdfnegookkcaaGreat
namespace Go.Proofs.YtfjdfnegookkcaaGreat
set_option linter.all false
open Go.Vm
attribute [local simp] cond_yes cond_yes2 int_beq int_bne
theorem pwF_snoc:∀ {a:List Un} {E:List Int} {u:Un} {q:Int},a.length = E.length → pwF (a ++ [u]) (E ++ [q]) = pwF a E + pow u q
 | [],[],_,_,_ => by simp [pwF]
 | u :: a,q :: E,w,z,h => by
   have:=pwF_snoc (a:=a) (E:=E) (u:=w) (q:=z) (by simpa using h)
   simp only [List.cons_append,pwF,this];omega
 | [],_ :: _,_,_,h => by simp at h
 | _ :: _,[],_,_,h => by simp at h
theorem stF_snoc:∀ {a:List Us} {E:List Int} {u:Us} {q:Int},a.length = E.length → stF (a ++ [u]) (E ++ [q]) = stF a E + stt u q
 | [],[],_,_,_ => by simp [stF]
 | u :: a,q :: E,w,z,h => by
   have:=stF_snoc (a:=a) (E:=E) (u:=w) (q:=z) (by simpa using h)
   simp only [List.cons_append,stF,this];omega
 | [],_ :: _,_,_,h => by simp at h
 | _ :: _,[],_,_,h => by simp at h
theorem pwF_ssum {us:List Un} {F:List Int} (h:F.length = us.length):∀ i,i ≤ us.length → ssum (fun j => pow (nth us j) (nth F j)) i = pwF (us.take i) (F.take i)
 | 0,_ => by simp [ssum,pwF]
 | i + 1,hi => by
   rw [take_snoc (l:=us) (by omega),take_snoc (l:=F) (by omega),pwF_snoc (by simp;omega),← pwF_ssum h i (by omega)]
   rfl
theorem stF_ssum {ss:List Us} {F:List Int} (h:F.length = ss.length):∀ i,i ≤ ss.length → ssum (fun j => stt (nth ss j) (nth F j)) i = stF (ss.take i) (F.take i)
 | 0,_ => by simp [ssum,stF]
 | i + 1,hi => by
   rw [take_snoc (l:=ss) (by omega),take_snoc (l:=F) (by omega),stF_snoc (by simp;omega),← stF_ssum h i (by omega)]
   rfl
theorem nxu_zero {u:Un} {s:Us} (hv:validP u s):nxu u s 0 = ⟨0,if 0 < s.flow then 1 else min 1000 (s.since + 1),s.out⟩:=by
 have hc:=hv.1
 have hf:0 ≤ s.flow:=by
  rcases hv.2.2 with h | ⟨_,h⟩
  ·omega
  ·have:=runs_pos hc h;omega
 unfold nxu
 by_cases h1:0 < s.flow
 ·rw [if_pos h1]
  split
  ·unfold nextS
   rw [if_neg (by simp [h1])]
  ·rfl
 ·rw [if_neg h1,if_pos]
  ·unfold nextS
   rw [if_pos (by simp [h1])]
  ·unfold mayP
   rw [if_pos rfl]
   exact fun h => absurd h h1
theorem c_r22_units {d:Dm} (hdv:Dv d) {s:Ds} (hf:dfit d s) {q:Int} (hq:0 ≤ q ∧ q ≤ 1073741824) (G:List GObj) :
  Lim F 62 [dm d,dst s,i64 q] G = some (.tuple [stsO (nus d s (min q (200 * d.gr)) d.u.length),i64 (ssum (flw d s (min q (200 * d.gr))) d.u.length),i64 (ssum (pww d s (min q (200 * d.gr))) d.u.length),i64 (ssum (sta d s (min q (200 * d.gr))) d.u.length)],G) :=
 eq_of rfl rfl (by
  obtain ⟨t,hb⟩:=c_r19_Best d.u s.u d.gr (min q (200 * d.gr)) []
  have hgr:=hdv.gr
  have hu6:=hdv.u
  have hul:=hf.2.2.1
  generalize hM:min q (200 * d.gr) = M at *
  by_cases he:bestE d.u s.u d.gr M = 0
  ·obtain ⟨h1,h2⟩:=bestE_feas he
   have hl:=feas_len h1
   have hV:=c_r19_Value d.u s.u (bestL d.u s.u d.gr M) (by omega) []
   rw [valO_feas h1] at hV
   simp only [valV] at hV
   have f1:flw d s M = fun j => nth (bestL d.u s.u d.gr M) j:=by funext j;simp [flw,he]
   have f2:pww d s M = fun j => pow (nth d.u j) (nth (bestL d.u s.u d.gr M) j):=by funext j;simp only [pww,f1]
   have f3:sta d s M = fun j => stt (nth s.u j) (nth (bestL d.u s.u d.gr M) j):=by funext j;simp only [sta,f1]
   have e1:ssum (flw d s M) d.u.length = (bestL d.u s.u d.gr M).sum:=by rw [f1,ssum_nth _ _ (by omega),List.take_of_length_le (by omega)]
   have e2:ssum (pww d s M) d.u.length = pwF d.u (bestL d.u s.u d.gr M):=by rw [f2,pwF_ssum hl.1 _ (Nat.le_refl _),List.take_of_length_le (by omega),List.take_of_length_le (by omega)]
   have e3:ssum (sta d s M) d.u.length = stF s.u (bestL d.u s.u d.gr M):=by rw [f3,stF_ssum hl.2 _ (by omega),List.take_of_length_le (by omega),List.take_of_length_le (by omega)]
   rw [e1,e2,e3]
   generalize hE:bestL d.u s.u d.gr M = E at *
   generalize pwF d.u E = PW at *
   generalize stF s.u E = ST at *
   generalize E.sum = SU at *
   simp +contextual (disch:=omega) [-getElem?_pos,-List.length_eq_zero_iff,-Int.natCast_eq_zero,wrap64,v_r22_units,hM,hb,he,hV]
   refine go_loop (fun i:Nat => v_r22_units_s1 (.slice none 1 (E.map fun n => [i64 n])) (.slice (some 1063) 3 ((nus d s M i).map Us.row)) SU PW ST (uns d.u) d.u.length i s.row i G) (fun i => i ≤ d.u.length) (fun i => d.u.length - i) 0 rfl (by simp [nus]) (by omega) ?_
   intro i hi
   have hnl:=nus_len (d:=d) (s:=s) (m:=M) (n:=i)
   simp +contextual (disch:=omega) [-getElem?_pos,-List.length_eq_zero_iff,-Int.natCast_eq_zero,wrap64,v_r22_units_b1]
   refine cnd_dec (fun h5 => ?_) (fun h5 => ?_)
   ·have h5:i < d.u.length:=by omega
    have h6:i < s.u.length:=by omega
    have h7:i < E.length:=by omega
    have hv:validP (nth d.u i) (nth s.u i):=hf.2.2.2.2.1 i h5
    have hfl:flw d s M i = nth E i:=by rw [f1]
    have hm:mayP (nth d.u i) (nth s.u i) (nth E i):=(mem_chs.1 (feas_nth h1 i h5)).2.2
    have hN:=c_r18_Next (nth d.u i) (nth s.u i) (nth E i) []
    have hnE:nextE (nth d.u i) (nth s.u i) (nth E i) = 0:=by rw [nextE_next hv,if_pos hm]
    rw [if_pos hnE] at hN
    have hx:nxu (nth d.u i) (nth s.u i) (nth E i) = nextS (nth s.u i) (nth E i):=by simp [nxu,hm]
    simp +contextual (disch:=omega) [-getElem?_pos,-List.length_eq_zero_iff,-Int.natCast_eq_zero,wrap64,get_nth (l:=d.u),get_nth (l:=s.u),get_int (l:=E),hN,hnl]
    refine rnd_next (i + 1) (by simp [nus_succ,hfl,hx]) (by omega) (by omega)
   ·obtain rfl:i = d.u.length:=by omega
    simp +contextual (disch:=omega) [-getElem?_pos,-List.length_eq_zero_iff,-Int.natCast_eq_zero,wrap64,hnl]
  ·have f1:flw d s M = fun _ => 0:=by funext j;simp [flw,he]
   have f2:pww d s M = fun _ => 0:=by funext j;simp [pww,f1,pow]
   have f3:sta d s M = fun _ => 0:=by funext j;simp [sta,f1,stt]
   rw [f1,f2,f3,ssum_zero]
   simp +contextual (disch:=omega) [-getElem?_pos,-List.length_eq_zero_iff,-Int.natCast_eq_zero,wrap64,v_r22_units,hM,hb,he]
   refine go_loop (fun i:Nat => v_r22_units_s0 (.slice (some 1063) 3 ((nus d s M i).map Us.row)) (sts s.u) s.u.length i i G) (fun i => i ≤ s.u.length) (fun i => s.u.length - i) 0 rfl (by simp [nus]) (by omega) ?_
   intro i hi
   have hnl:=nus_len (d:=d) (s:=s) (m:=M) (n:=i)
   simp +contextual (disch:=omega) [-getElem?_pos,-List.length_eq_zero_iff,-Int.natCast_eq_zero,wrap64,v_r22_units_b0]
   refine cnd_dec (fun h5 => ?_) (fun h5 => ?_)
   ·have h5:i < d.u.length:=by omega
    have h6:i < s.u.length:=by omega
    have hv:validP (nth d.u i) (nth s.u i):=hf.2.2.2.2.1 i h5
    have hsi:=hv.2.1
    have hfl:flw d s M i = 0:=by rw [f1]
    have hx:=nxu_zero hv
    by_cases h7:0 < (nth s.u i).flow
    ·rw [if_pos h7] at hx
     simp +contextual (disch:=omega) [-getElem?_pos,-List.length_eq_zero_iff,-Int.natCast_eq_zero,wrap64,get_nth (l:=s.u),h7,hnl]
     refine rnd_next (i + 1) (by simp [nus_succ,hfl,hx]) (by omega) (by omega)
    ·rw [if_neg h7] at hx
     simp +contextual (disch:=omega) [-getElem?_pos,-List.length_eq_zero_iff,-Int.natCast_eq_zero,wrap64,get_nth (l:=s.u),h7,hnl]
     refine rnd_next (i + 1) (by simp [nus_succ,hfl,hx]) (by omega) (by omega)
   ·obtain rfl:i = s.u.length:=by omega
    rw [hul] at hnl ⊢
    simp +contextual (disch:=omega) [-getElem?_pos,-List.length_eq_zero_iff,-Int.natCast_eq_zero,wrap64,hnl])
end Go.Proofs.YtfjdfnegookkcaaGreat
namespace Go.Proofs.YtfjdfnegookkcaaGreat
set_option linter.all false
open Go.Vm
attribute [local simp] cond_yes cond_yes2 int_beq int_bne
theorem c_r22_Step (d:Dm) (s:Ds) (inf los rel:Int):∃ G',Lim F 26 [dm d,dst s,i64 inf,i64 los,i64 rel] [] = some (stAns d s inf los rel,G'):=by
 suffices h:∀ Q:V → List GObj → Prop,(∀ G',Q (stAns d s inf los rel) G') → Ret (Lim F) 26 [dm d,dst s,i64 inf,i64 los,i64 rel] [] Q by
  obtain ⟨_,G',h,rfl⟩:=h (fun v G' => v = stAns d s inf los rel) fun _ => rfl
  exact ⟨G',h⟩
 intro Q hQ
 refine ret_of rfl rfl ?_
 by_cases hd:dE d s = 0
 ·obtain ⟨hdv,hf⟩:=dE_zero hd
  have hlv:lvl d s = hgt d.r s.v:=by simp [lvl,hd]
  by_cases ho:[inf,los,rel].any out1 = false
  ·have he:stE' d s inf los rel = 0:=by unfold stE';rw [if_neg (fun g => g hd),ho];rfl
   unfold stAns at hQ
   rw [if_pos he] at hQ
   have hx:=ho
   simp only [out1,List.any_cons,List.any_nil,Bool.or_false,Bool.or_eq_false_iff,Bool.not_eq_false',decide_eq_true_eq] at hx
   obtain ⟨x1,x2,x3⟩:=hx
   have i1:(decide (0 ≤ inf) && decide (inf ≤ 1073741824)) = true:=by simp;omega
   have i2:(decide (0 ≤ los) && decide (los ≤ 1073741824)) = true:=by simp;omega
   have i3:(decide (0 ≤ rel) && decide (rel ≤ 1073741824)) = true:=by simp;omega
   have p:=stp_of hdv hf x1 x2 x3
   have hv:=hf.1
   have hC:=dCr_range hdv.r
   have hD:=dDd_range hdv.r
   have hV1:=c_r03_Volume d.r d.r.d []
   rw [sWr_d hdv.r,if_pos rfl,show cval d.r.c d.r.d = dDd d from rfl] at hV1
   have hV2:=c_r03_Volume d.r d.r.t []
   rw [sWr_t hdv.r,if_pos rfl,show cval d.r.c d.r.t = dCr d from rfl] at hV2
   have hL:s.v + inf - min los (s.v + inf) = stL s inf los:=rfl
   have hfr:max 0 (stL s inf los - dDd d) = fre d (stL s inf los):=by unfold fre;omega
   have hLr:0 ≤ stL s inf los ∧ stL s inf los ≤ 4611686018427387904:=by unfold stL;omega
   have hf0:0 ≤ fre d (stL s inf los) ∧ fre d (stL s inf los) ≤ 4611686018427387904:=by unfold fre;omega
   have hU:=c_r22_units hdv hf (q:=min rel (fre d (stL s inf los))) (by omega) []
   rw [show min (min rel (fre d (stL s inf los))) (200 * d.gr) = mst d rel (stL s inf los) from rfl] at hU
   rw [show ssum (flw d s (mst d rel (stL s inf los))) d.u.length = stT d s inf los rel from rfl] at hU
   have hT:=p.T0
   have hTr:=p.Tr
   have hW:min rel (fre d (stL s inf los)) - stT d s inf los rel = wnt d rel (stL s inf los) (stT d s inf los rel):=rfl
   have hS:=c_r20_Set d.g s.g (hgt d.r s.v) (wnt d rel (stL s inf los) (stT d s inf los rel)) []
   have hF:=setF_range d.g s.g (hgt d.r s.v) (wnt d rel (stL s inf los) (stT d s inf los rel))
   have hP:min (setF d.g s.g (hgt d.r s.v) (wnt d rel (stL s inf los) (stT d s inf los rel))) (fre d (stL s inf los) - stT d s inf los rel) = stP d s inf los rel:=rfl
   have hP0:=p.P0
   have hP1:=p.P1
   have hO:max 0 (stL s inf los - (stT d s inf los rel + stP d s inf los rel) - dCr d) = stO d s inf los rel:=by unfold stO;omega
   have hO0:0 ≤ stO d s inf los rel ∧ stO d s inf los rel ≤ 4611686018427387904:=by unfold stO;omega
   have hmn:min 1073741824 (stT d s inf los rel + stP d s inf los rel) = min (stT d s inf los rel + stP d s inf los rel) 1073741824:=Int.min_comm _ _
   unfold stS stR at hQ
   generalize stO d s inf los rel = O at *
   generalize stP d s inf los rel = P at *
   generalize wnt d rel (stL s inf los) (stT d s inf los rel) = W at *
   generalize stT d s inf los rel = T at *
   generalize hLL:stL s inf los = L at *
   simp (config:={ maxSteps:=2000000 }) +contextual (disch:=omega) [-getElem?_pos,-List.length_eq_zero_iff,-Int.natCast_eq_zero,wrap64,v_r22_Step,c_r22_Level,hd,hlv,c_r01_In,i1,i2,i3,hV1,hV2]
   simp (config:={ maxSteps:=2000000 }) +contextual (disch:=omega) [-getElem?_pos,-List.length_eq_zero_iff,-Int.natCast_eq_zero,wrap64,hL,hfr,hU]
   simp (config:={ maxSteps:=2000000 }) +contextual (disch:=omega) [-getElem?_pos,-List.length_eq_zero_iff,-Int.natCast_eq_zero,wrap64,hW,hS,hP,hO,hmn]
   exact hQ _
  ·have ho:[inf,los,rel].any out1 = true:=(Bool.eq_false_or_eq_true _).resolve_right ho
   have he:stE' d s inf los rel = 1:=by unfold stE';rw [if_neg (fun g => g hd),ho];rfl
   unfold stAns at hQ
   rw [he,if_neg (by omega)] at hQ
   simp only [out1,List.any_cons,List.any_nil,Bool.or_false] at ho
   by_cases i1:0 ≤ inf ∧ inf ≤ 1073741824
   ·by_cases i2:0 ≤ los ∧ los ≤ 1073741824
    ·by_cases i3:0 ≤ rel ∧ rel ≤ 1073741824
     ·simp [i1,i2,i3] at ho
     ·have j1:(decide (0 ≤ inf) && decide (inf ≤ 1073741824)) = true:=by simp;omega
      have j2:(decide (0 ≤ los) && decide (los ≤ 1073741824)) = true:=by simp;omega
      have j3:(decide (0 ≤ rel) && decide (rel ≤ 1073741824)) = false:=by simp;omega
      simp (config:={ maxSteps:=2000000 }) +contextual (disch:=omega) [-getElem?_pos,-List.length_eq_zero_iff,-Int.natCast_eq_zero,wrap64,v_r22_Step,c_r22_Level,hd,hlv,c_r01_In,j1,j2,j3]
      exact hQ _
    ·have j1:(decide (0 ≤ inf) && decide (inf ≤ 1073741824)) = true:=by simp;omega
     have j2:(decide (0 ≤ los) && decide (los ≤ 1073741824)) = false:=by simp;omega
     simp (config:={ maxSteps:=2000000 }) +contextual (disch:=omega) [-getElem?_pos,-List.length_eq_zero_iff,-Int.natCast_eq_zero,wrap64,v_r22_Step,c_r22_Level,hd,hlv,c_r01_In,j1,j2]
     exact hQ _
   ·have j1:(decide (0 ≤ inf) && decide (inf ≤ 1073741824)) = false:=by simp;omega
    simp (config:={ maxSteps:=2000000 }) +contextual (disch:=omega) [-getElem?_pos,-List.length_eq_zero_iff,-Int.natCast_eq_zero,wrap64,v_r22_Step,c_r22_Level,hd,hlv,c_r01_In,j1]
    exact hQ _
 ·have he:stE' d s inf los rel = dE d s:=by unfold stE';rw [if_pos hd]
  unfold stAns at hQ
  rw [he,if_neg hd] at hQ
  simp +contextual (disch:=omega) [-getElem?_pos,-List.length_eq_zero_iff,-Int.natCast_eq_zero,wrap64,v_r22_Step,c_r22_Level,hd]
  exact hQ _
end Go.Proofs.YtfjdfnegookkcaaGreat
namespace Go.Proofs.YtfjdfnegookkcaaGreat
set_option linter.all false
open Go.Vm
attribute [local simp] cond_yes cond_yes2 int_beq int_bne
abbrev dstT (tu tg:Option Nat) (s:Ds):V:=.agg [i64 s.v,i64 s.rel,.slice tu 3 (s.u.map Us.row),.slice tg 2 (s.g.map Gs.row)]
theorem c_odd {l:List Int} {k:Nat} (hd:okd l k) {d:Dm} (hr:sChk d.r = 0) (s:Ds) (hu:s.u.length ≤ 100000) (hg:s.g.length ≤ 100000) :
  ∃ s' k' tu tg,Lim F 18 [.gptr 0 0,dm d,dst s] [dk l k] = some (dstT tu tg s',[dk l k']) ∧ okd l k' ∧ s'.u.length ≤ s.u.length + 1 ∧ s'.g.length ≤ s.g.length + 1:=by
 suffices h:∀ Q:V → List GObj → Prop,(∀ s' k' tu tg,okd l k' → s'.u.length ≤ s.u.length + 1 → s'.g.length ≤ s.g.length + 1 → Q (dstT tu tg s') [dk l k']) → Ret (Lim F) 18 [.gptr 0 0,dm d,dst s] [dk l k] Q by
  obtain ⟨_,_,h,s',k',tu,tg,rfl,rfl,h1⟩:=h (fun v G => ∃ s' k' tu tg,v = dstT tu tg s' ∧ G = [dk l k'] ∧ okd l k' ∧ s'.u.length ≤ s.u.length + 1 ∧ s'.g.length ≤ s.g.length + 1) fun s' k' tu tg a b c => ⟨s',k',tu,tg,rfl,rfl,a,b,c⟩
  exact ⟨s',k',tu,tg,h,h1⟩
 intro Q hQ
 refine ret_of rfl rfl ?_
 have hV:=c_r03_Volume d.r d.r.t []
 rw [sWr_t hr,if_pos rfl] at hV
 have hvr:=vol_range hr d.r.t
 obtain ⟨a,k1,n1,hd1,ha⟩:=c_Next hd 5 (by omega)
 obtain ⟨b,k2,n2,hd2,hb⟩:=c_Next hd1 4 (by omega)
 obtain ⟨c,k3,n3,hd3,hc⟩:=c_Next hd1 3 (by omega)
 have:a = 0 ∨ a = 1 ∨ a = 2 ∨ a = 3 ∨ a = 4:=by omega
 rcases this with rfl | rfl | rfl | rfl | rfl
 ·have:b = 0 ∨ b = 1 ∨ b = 2 ∨ b = 3:=by omega
  rcases this with rfl | rfl | rfl | rfl
  ·simp +contextual (disch:=omega) [-getElem?_pos,-List.length_eq_zero_iff,-Int.natCast_eq_zero,wrap64,v_w22_odd,hV,n1,n2]
   exact hQ ⟨-1,s.rel,s.u,s.g⟩ k2 none none hd2 (by simp) (by simp)
  ·simp +contextual (disch:=omega) [-getElem?_pos,-List.length_eq_zero_iff,-Int.natCast_eq_zero,wrap64,v_w22_odd,hV,n1,n2]
   exact hQ ⟨0,s.rel,s.u,s.g⟩ k2 none none hd2 (by simp) (by simp)
  ·simp +contextual (disch:=omega) [-getElem?_pos,-List.length_eq_zero_iff,-Int.natCast_eq_zero,wrap64,v_w22_odd,hV,n1,n2]
   exact hQ ⟨_,s.rel,s.u,s.g⟩ k2 none none hd2 (by simp) (by simp)
  ·simp +contextual (disch:=omega) [-getElem?_pos,-List.length_eq_zero_iff,-Int.natCast_eq_zero,wrap64,v_w22_odd,hV,n1,n2]
   exact hQ ⟨_,s.rel,s.u,s.g⟩ k2 none none hd2 (by simp) (by simp)
 ·have:c = 0 ∨ c = 1 ∨ c = 2:=by omega
  rcases this with rfl | rfl | rfl
  ·simp +contextual (disch:=omega) [-getElem?_pos,-List.length_eq_zero_iff,-Int.natCast_eq_zero,wrap64,v_w22_odd,hV,n1,n3]
   exact hQ ⟨s.v,-1,s.u,s.g⟩ k3 none none hd3 (by simp) (by simp)
  ·simp +contextual (disch:=omega) [-getElem?_pos,-List.length_eq_zero_iff,-Int.natCast_eq_zero,wrap64,v_w22_odd,hV,n1,n3]
   exact hQ ⟨s.v,1073741824,s.u,s.g⟩ k3 none none hd3 (by simp) (by simp)
  ·simp +contextual (disch:=omega) [-getElem?_pos,-List.length_eq_zero_iff,-Int.natCast_eq_zero,wrap64,v_w22_odd,hV,n1,n3]
   exact hQ ⟨s.v,1073741825,s.u,s.g⟩ k3 none none hd3 (by simp) (by simp)
 ·simp +contextual (disch:=omega) [-getElem?_pos,-List.length_eq_zero_iff,-Int.natCast_eq_zero,wrap64,v_w22_odd,hV,n1]
  have:=hQ ⟨s.v,s.rel,s.u ++ [⟨0,0,false⟩],s.g⟩ k1 (some 0) none hd1 (by simp) (by simp)
  simp only [dstT,List.map_append,List.map_cons,List.map_nil] at this
  exact this
 ·simp +contextual (disch:=omega) [-getElem?_pos,-List.length_eq_zero_iff,-Int.natCast_eq_zero,wrap64,v_w22_odd,hV,n1]
  have:=hQ ⟨s.v,s.rel,s.u,s.g ++ [⟨0,false⟩]⟩ k1 none (some 0) hd1 (by simp) (by simp)
  simp only [dstT,List.map_append,List.map_cons,List.map_nil] at this
  exact this
 ·simp +contextual (disch:=omega) [-getElem?_pos,-List.length_eq_zero_iff,-Int.natCast_eq_zero,wrap64,v_w22_odd,hV,n1]
  exact hQ s k1 none none hd1 (by simp) (by simp)
theorem stAns_form (d:Dm) (s:Ds) (inf los rel:Int):∃ X R e t,stAns d s inf los rel = .tuple [dstT t t X,dr R,i64 e] ∧ X.u.length ≤ 6 ∧ X.g.length ≤ 1000:=by
 unfold stAns
 by_cases h:stE' d s inf los rel = 0
 ·rw [if_pos h]
  have hd:dE d s = 0:=by
   unfold stE' at h
   split at h
   ·rename_i h1;exact absurd h h1
   ·rename_i h1;exact Decidable.of_not_not h1
  obtain ⟨hdv,hf⟩:=dE_zero hd
  refine ⟨stS d s inf los rel,stR d s inf los rel,0,none,rfl,?_,?_⟩
  ·show (nus d s _ d.u.length).length ≤ 6
   rw [nus_len];exact hdv.u
  ·show (setS d.g s.g _ _).length ≤ 1000
   unfold setS outS
   split
   ·have:=hdv.g
    have:=hf.2.2.2.1
    simp;omega
   ·simp
 ·rw [if_neg h]
  exact ⟨⟨0,0,[],[]⟩,⟨0,0,0,0,0,0,0⟩,_,some 0,rfl,by simp,by simp⟩
end Go.Proofs.YtfjdfnegookkcaaGreat
namespace Go.Proofs.YtfjdfnegookkcaaGreat
set_option linter.all false
open Go.Vm
attribute [local simp] cond_yes cond_yes2 int_beq int_bne
def okF (A B C:List Int) (i:Nat):Prop:=(0 ≤ nth A i ∧ nth A i ≤ 1073741824) ∧ (0 ≤ nth B i ∧ nth B i ≤ 1073741824) ∧ (0 ≤ nth C i ∧ nth C i ≤ 1073741824)
instance {A B C:List Int} {i:Nat}:Decidable (okF A B C i):=inferInstanceAs (Decidable (_ ∧ _ ∧ _))
def okA (A B C:List Int):Prop:=∀ i,i < A.length → okF A B C i
noncomputable instance {A B C:List Int}:Decidable (okA A B C):=Classical.propDecidable _
noncomputable def rnE (d:Dm) (s:Ds) (A B C:List Int):Int :=
 if B.length ≠ A.length ∨ C.length ≠ A.length then 3 else if 4096 < A.length then 10 else if dE d s ≠ 0 then dE d s else if okA A B C then 0 else 1
noncomputable def rnAns (d:Dm) (s:Ds) (A B C:List Int):V:=.tuple (if rnE d s A B C = 0 then [dst (rnS d s A B C A.length),drs (rnL d s A B C A.length),i64 0] else [.agg [i64 0,i64 0,.slice (some 0) 3 [],.slice (some 0) 2 []],.slice (some 0) 7 [],i64 (rnE d s A B C)])
abbrev rnX (e:Int):V:=.tuple [.agg [i64 0,i64 0,.slice (some 0) 3 [],.slice (some 0) 2 []],.slice (some 0) 7 [],i64 e]
theorem rnAns_err {d:Dm} {s:Ds} {A B C:List Int} {e:Int} (h:rnE d s A B C = e) (he:e ≠ 0):rnAns d s A B C = rnX e:=by
 unfold rnAns
 rw [h,if_neg he]
theorem rnAns_ok {d:Dm} {s:Ds} {A B C:List Int} (h:rnE d s A B C = 0):rnAns d s A B C = .tuple [dst (rnS d s A B C A.length),drs (rnL d s A B C A.length),i64 0]:=by
 unfold rnAns
 rw [if_pos h]
theorem stAns_dE {d:Dm} {s:Ds} {inf los rel:Int} (h:dE d s ≠ 0):stAns d s inf los rel = .tuple [.agg [i64 0,i64 0,.slice (some 0) 3 [],.slice (some 0) 2 []],dr ⟨0,0,0,0,0,0,0⟩,i64 (dE d s)]:=by
 have he:stE' d s inf los rel = dE d s:=by unfold stE';rw [if_pos h]
 unfold stAns
 rw [he,if_neg h]
theorem stAns_bad {d:Dm} {s:Ds} {A B C:List Int} {i:Nat} (h:dE d s = 0) (hb:¬ okF A B C i):stAns d s (nth A i) (nth B i) (nth C i) = .tuple [.agg [i64 0,i64 0,.slice (some 0) 3 [],.slice (some 0) 2 []],dr ⟨0,0,0,0,0,0,0⟩,i64 1]:=by
 have ho:[nth A i,nth B i,nth C i].any out1 = true:=by
  by_cases h1:0 ≤ nth A i ∧ nth A i ≤ 1073741824
  ·by_cases h2:0 ≤ nth B i ∧ nth B i ≤ 1073741824
   ·by_cases h3:0 ≤ nth C i ∧ nth C i ≤ 1073741824
    ·exact absurd ⟨h1,h2,h3⟩ hb
    ·simp only [List.any_cons,out1,decide_eq_false h3];simp
   ·simp only [List.any_cons,out1,decide_eq_false h2];simp
  ·simp only [List.any_cons,out1,decide_eq_false h1];simp
 have he:stE' d s (nth A i) (nth B i) (nth C i) = 1:=by unfold stE';rw [if_neg (fun g => g h),ho];rfl
 unfold stAns
 rw [he,if_neg (by decide)]
theorem rnS_fit {d:Dm} (hdv:Dv d) {s:Ds} (hf:dfit d s) {A B C:List Int}:∀ i,(∀ j,j < i → okF A B C j) → dfit d (rnS d s A B C i)
 | 0,_ => hf
 | i + 1,h => stS_fit hdv (rnS_fit hdv hf i fun j hj => h j (by omega)) (h i (by omega)).1 (h i (by omega)).2.1 (h i (by omega)).2.2
theorem c_dam_Run' (d:Dm) (s:Ds) (A B C:List Int):Lim F 29 [dm d,dst s,ints A,ints B,ints C] [] = some (rnAns d s A B C,[]):=by
 refine eq_of rfl rfl ?_
 generalize hW:rnAns d s A B C = W
 by_cases b1:(B.length:Int) = A.length
 ·by_cases b2:(C.length:Int) = A.length
  ·by_cases b3:(4096:Int) < A.length
   ·simp +contextual (disch:=omega) [-getElem?_pos,-List.length_eq_zero_iff,-Int.natCast_eq_zero,wrap64,v_dam_Run,b1,b2,b3]
    rw [← hW,rnAns_err (e:=10) (by unfold rnE;rw [if_neg (by omega),if_pos (by omega)]) (by decide)]
   ·by_cases hd:dE d s = 0
    ·obtain ⟨hdv,hf⟩:=dE_zero hd
     have hu6:=hdv.u
     have hg8:=hdv.g
     have hul:=hf.2.2.1
     have hgl:=hf.2.2.2.1
     have hc:dChk d = 0:=by
      unfold dE at hd
      split at hd
      ·rename_i h1;exact absurd hd h1
      ·rename_i h1;exact Decidable.of_not_not h1
     have hcu:=c_clone_us s.u (by omega) []
     have hcg:=c_clone_gs s.g (by omega) []
     simp +contextual (disch:=omega) [-getElem?_pos,-List.length_eq_zero_iff,-Int.natCast_eq_zero,wrap64,v_dam_Run,b1,b2,b3,c_dam_asked,hd,hcu,hcg]
     refine go_loop (fun i:Nat => v_dam_Run_s0 (ints A) (ints B) (ints C) (.slice (some 1089) 7 ((rnL d s A B C i).map Dr.row)) A.length i d.row [i64 0,i64 0,.nils,.nils] (rnS d s A B C i).row i []) (fun i => i ≤ A.length ∧ ∀ j,j < i → okF A B C j) (fun i => A.length - i) 0 rfl (by simp [rnS,rnL]) ⟨by omega,by omega⟩ ?_
     rintro i ⟨hi,hj⟩
     have hll:=rnL_len (d:=d) (s:=s) (A:=A) (B:=B) (C:=C) (n:=i)
     have hfi:=rnS_fit hdv hf i hj
     obtain ⟨G1,hS⟩:=c_dam_Step d (rnS d s A B C i) (nth A i) (nth B i) (nth C i)
     simp +contextual (disch:=omega) [-getElem?_pos,-List.length_eq_zero_iff,-Int.natCast_eq_zero,wrap64,v_dam_Run_b0]
     refine cnd_dec (fun h5 => ?_) (fun h5 => ?_)
     ·have h5:i < A.length:=by omega
      have h6:i < B.length:=by omega
      have h7:i < C.length:=by omega
      by_cases hk:okF A B C i
      ·rw [stAns_ok hc hfi hk.1 hk.2.1 hk.2.2] at hS
       simp +contextual (disch:=omega) [-getElem?_pos,-List.length_eq_zero_iff,-Int.natCast_eq_zero,wrap64,get_int (l:=A),get_int (l:=B),get_int (l:=C),hS,hll]
       refine rnd_next (i + 1) (by simp [rnL_succ,rnS,rnR]) ⟨by omega,fun j h8 => ?_⟩ (by omega)
       by_cases h9:j = i
       ·rw [h9];exact hk
       ·exact hj j (by omega)
      ·rw [stAns_bad (by unfold dE;rw [if_neg (fun g => g hc),if_pos hfi]) hk] at hS
       simp +contextual (disch:=omega) [-getElem?_pos,-List.length_eq_zero_iff,-Int.natCast_eq_zero,wrap64,get_int (l:=A),get_int (l:=B),get_int (l:=C),hS,hll]
       rw [← hW,rnAns_err (e:=1) (by unfold rnE;rw [if_neg (by omega),if_neg (by omega),if_neg (fun g => g hd),if_neg (fun g:okA A B C => hk (g i h5))]) (by decide)]
     ·obtain rfl:i = A.length:=by omega
      simp +contextual (disch:=omega) [-getElem?_pos,-List.length_eq_zero_iff,-Int.natCast_eq_zero,wrap64,hll]
      rw [← hW,rnAns_ok (by unfold rnE;rw [if_neg (by omega),if_neg (by omega),if_neg (fun g => g hd),if_pos (show okA A B C from hj)])]
    ·simp +contextual (disch:=omega) [-getElem?_pos,-List.length_eq_zero_iff,-Int.natCast_eq_zero,wrap64,v_dam_Run,b1,b2,b3,c_dam_asked,hd]
     rw [← hW,rnAns_err (e:=dE d s) (by unfold rnE;rw [if_neg (by omega),if_neg (by omega),if_pos hd]) hd]
  ·have b2':¬ (A.length:Int) = C.length:=by omega
   simp +contextual (disch:=omega) [-getElem?_pos,-List.length_eq_zero_iff,-Int.natCast_eq_zero,wrap64,v_dam_Run,b1,b2']
   rw [← hW,rnAns_err (e:=3) (by unfold rnE;rw [if_pos (by omega)]) (by decide)]
 ·have b1':¬ (A.length:Int) = B.length:=by omega
  simp +contextual (disch:=omega) [-getElem?_pos,-List.length_eq_zero_iff,-Int.natCast_eq_zero,wrap64,v_dam_Run,b1']
  rw [← hW,rnAns_err (e:=3) (by unfold rnE;rw [if_pos (by omega)]) (by decide)]
end Go.Proofs.YtfjdfnegookkcaaGreat
namespace Go.Proofs.YtfjdfnegookkcaaGreat
set_option linter.all false
open Go.Vm
attribute [local simp] cond_yes cond_yes2 int_beq int_bne
noncomputable def rnT (t:Option Nat) (d:Dm) (s:Ds) (A B C:List Int):V:=.tuple (if rnE d s A B C = 0 then [dstT t t (rnS d s A B C A.length),drs (rnL d s A B C A.length),i64 0] else [.agg [i64 0,i64 0,.slice (some 0) 3 [],.slice (some 0) 2 []],.slice (some 0) 7 [],i64 (rnE d s A B C)])
theorem rnT_err {t:Option Nat} {d:Dm} {s:Ds} {A B C:List Int} {e:Int} (h:rnE d s A B C = e) (he:e ≠ 0):rnT t d s A B C = rnX e:=by
 unfold rnT
 rw [h,if_neg he]
theorem rnT_ok {t:Option Nat} {d:Dm} {s:Ds} {A B C:List Int} (h:rnE d s A B C = 0):rnT t d s A B C = .tuple [dstT t t (rnS d s A B C A.length),drs (rnL d s A B C A.length),i64 0]:=by
 unfold rnT
 rw [if_pos h]
set_option maxHeartbeats 2000000 in
theorem c_r22_Run (d:Dm) (s:Ds) (hu:s.u.length ≤ 5864062014805) (hg:s.g.length ≤ 8796093022208) (A B C:List Int):∃ t,Lim F 31 [dm d,dst s,ints A,ints B,ints C] [] = some (rnT t d s A B C,[]):=by
 suffices h:∀ Q:V → Prop,(∀ t,Q (rnT t d s A B C)) → Ret (Lim F) 31 [dm d,dst s,ints A,ints B,ints C] [] fun v G' => Q v ∧ G' = [] by
  obtain ⟨_,_,h,⟨t,rfl⟩,rfl⟩:=h (fun v => ∃ t,v = rnT t d s A B C) fun t => ⟨t,rfl⟩
  exact ⟨t,h⟩
 intro Q hQ
 have herr:∀ e,rnE d s A B C = e → e ≠ 0 → Q (rnX e):=fun e h he => by
  have:=hQ none
  rwa [rnT_err h he] at this
 have hok:∀ t,rnE d s A B C = 0 → Q (.tuple [dstT t t (rnS d s A B C A.length),drs (rnL d s A B C A.length),i64 0]):=fun t h => by
  have:=hQ t
  rwa [rnT_ok h] at this
 refine ret_of rfl rfl ?_
 by_cases b1:(B.length:Int) = A.length
 ·by_cases b2:(C.length:Int) = A.length
  ·by_cases b3:(4096:Int) < A.length
   ·simp +contextual (disch:=omega) [-getElem?_pos,-List.length_eq_zero_iff,-Int.natCast_eq_zero,wrap64,v_r22_Run,b1,b2,b3]
    exact herr 10 (by unfold rnE;rw [if_neg (by omega),if_pos (by omega)]) (by decide)
   ·by_cases b4:A.length = 0
    ·have b5:(A.length:Int) = 0:=by omega
     by_cases hd:dE d s = 0
     ·simp +contextual (disch:=omega) [-getElem?_pos,-List.length_eq_zero_iff,-Int.natCast_eq_zero,wrap64,v_r22_Run,b1,b2,b3,b5,c_r22_wrong,hd]
      refine go_loop (fun _:Nat => v_r22_Run_s0 (ints A) (ints B) (ints C) (.slice (some 1086) 7 []) 0 0 d.row [i64 s.v,i64 s.rel,.slice (some 1048) 3 (s.u.map Us.row),.slice (some 1051) 2 (s.g.map Gs.row)] [i64 0,i64 0,.nils,.nils] s.u.length s.g.length 0 []) (fun _ => True) (fun i => i) 0 rfl (by simp) trivial ?_
      rintro i _
      simp +contextual (disch:=omega) [-getElem?_pos,-List.length_eq_zero_iff,-Int.natCast_eq_zero,wrap64,v_r22_Run_b0]
      have hz:=hok (some 0) (by unfold rnE;rw [if_neg (by omega),if_neg (by omega),if_neg (fun g => g hd),if_pos (show okA A B C from fun i hi => by omega)])
      rw [b4] at hz
      exact hz
     ·simp +contextual (disch:=omega) [-getElem?_pos,-List.length_eq_zero_iff,-Int.natCast_eq_zero,wrap64,v_r22_Run,b1,b2,b3,b5,c_r22_wrong,hd]
      exact herr (dE d s) (by unfold rnE;rw [if_neg (by omega),if_neg (by omega),if_pos hd]) hd
    ·have b5:¬ (A.length:Int) = 0:=by omega
     simp +contextual (disch:=omega) [-getElem?_pos,-List.length_eq_zero_iff,-Int.natCast_eq_zero,wrap64,v_r22_Run,b1,b2,b3,b5,c_r22_wrong]
     refine go_loop (fun x:Nat × Bool => v_r22_Run_s0 (ints A) (ints B) (ints C) (.slice (some 1086) 7 ((rnL d s A B C x.1).map Dr.row)) A.length x.1 d.row [i64 (rnS d s A B C x.1).v,i64 (rnS d s A B C x.1).rel,.slice (bif x.2 then some 1048 else none) 3 ((rnS d s A B C x.1).u.map Us.row),.slice (bif x.2 then some 1051 else none) 2 ((rnS d s A B C x.1).g.map Gs.row)] [i64 0,i64 0,.nils,.nils] s.u.length s.g.length x.1 []) (fun x => x.1 ≤ A.length ∧ (x.2 = true ∨ dE d s ≠ 0 → x.1 = 0) ∧ ∀ j,j < x.1 → okF A B C j) (fun x => A.length - x.1) (0,true) rfl (by simp [rnS,rnL]) ⟨by simp,fun _ => rfl,fun j hj => by simp at hj⟩ ?_
     rintro ⟨i,b⟩ ⟨hi,h0,hj⟩
     simp only at hi h0 hj
     have hll:=rnL_len (d:=d) (s:=s) (A:=A) (B:=B) (C:=C) (n:=i)
     obtain ⟨G1,hS⟩:=c_r22_Step d (rnS d s A B C i) (nth A i) (nth B i) (nth C i)
     refine Decidable.byCases (p:=i < A.length) (fun h5 => ?_) (fun h5 => ?_)
     ·have b6:(i:Int) < A.length:=by omega
      have h6:i < B.length:=by omega
      have h7:i < C.length:=by omega
      by_cases hd:dE d s = 0
      ·obtain ⟨hdv,hf⟩:=dE_zero hd
       have hfi:=rnS_fit hdv hf i hj
       have hc:dChk d = 0:=by
        unfold dE at hd
        split at hd
        ·rename_i h1;exact absurd hd h1
        ·rename_i h1;exact Decidable.of_not_not h1
       by_cases hk:okF A B C i
       ·rw [stAns_ok hc hfi hk.1 hk.2.1 hk.2.2] at hS
        cases b <;> (
         simp +contextual (disch:=omega) [-getElem?_pos,-List.length_eq_zero_iff,-Int.natCast_eq_zero,wrap64,v_r22_Run_b0,b6,get_int (l:=A),get_int (l:=B),get_int (l:=C),hS,hll]
         refine rnd_next (i + 1,false) (by simp [rnL_succ,rnS,rnR]) ⟨by simp only;omega,fun g => by rcases g with g | g <;> simp_all,fun j h8 => ?_⟩ (by simp only;omega)
         simp only at h8
         by_cases h9:j = i
         ·rw [h9];exact hk
         ·exact hj j (by omega))
       ·rw [stAns_bad (by unfold dE;rw [if_neg (fun g => g hc),if_pos hfi]) hk] at hS
        cases b <;> (
         simp +contextual (disch:=omega) [-getElem?_pos,-List.length_eq_zero_iff,-Int.natCast_eq_zero,wrap64,v_r22_Run_b0,b6,get_int (l:=A),get_int (l:=B),get_int (l:=C),hS,hll]
         exact herr 1 (by unfold rnE;rw [if_neg (by omega),if_neg (by omega),if_neg (fun g => g hd),if_neg (fun g:okA A B C => hk (g i h5))]) (by decide))
      ·obtain rfl:=h0 (.inr hd)
       rw [show rnS d s A B C 0 = s from rfl,stAns_dE hd] at hS
       cases b <;> (
        simp +contextual (disch:=omega) [-getElem?_pos,-List.length_eq_zero_iff,-Int.natCast_eq_zero,wrap64,v_r22_Run_b0,b6,h5,show rnS d s A B C 0 = s from rfl,get_int (l:=A),get_int (l:=B),get_int (l:=C),hS,hll,hd]
        exact herr (dE d s) (by unfold rnE;rw [if_neg (by omega),if_neg (by omega),if_pos hd]) hd)
     ·have b6:¬ (i:Int) < A.length:=by omega
      obtain rfl:i = A.length:=by omega
      have hd:dE d s = 0:=Decidable.by_contra fun g => b4 (h0 (.inr g))
      obtain rfl:b = false:=by
       cases b
       ·rfl
       ·exact absurd (h0 (.inl rfl)) b4
      simp +contextual (disch:=omega) [-getElem?_pos,-List.length_eq_zero_iff,-Int.natCast_eq_zero,wrap64,v_r22_Run_b0,b6,hll]
      exact hok none (by unfold rnE;rw [if_neg (by omega),if_neg (by omega),if_neg (fun g => g hd),if_pos (show okA A B C from hj)])
  ·have b2':¬ (A.length:Int) = C.length:=by omega
   simp +contextual (disch:=omega) [-getElem?_pos,-List.length_eq_zero_iff,-Int.natCast_eq_zero,wrap64,v_r22_Run,b1,b2']
   exact herr 3 (by unfold rnE;rw [if_pos (by omega)]) (by decide)
 ·have b1':¬ (A.length:Int) = B.length:=by omega
  simp +contextual (disch:=omega) [-getElem?_pos,-List.length_eq_zero_iff,-Int.natCast_eq_zero,wrap64,v_r22_Run,b1']
  exact herr 3 (by unfold rnE;rw [if_pos (by omega)]) (by decide)
theorem c_r22_Flow (r:Dr) (ht:0 ≤ r.tur ∧ r.tur ≤ 1099511627776) (hs:0 ≤ r.spi ∧ r.spi ≤ 1099511627776) (ho:0 ≤ r.ovr ∧ r.ovr ≤ 1099511627776) (G:List GObj):Lim F 32 [dr r] G = some (i64 (r.tur + r.spi + r.ovr),G) :=
 eq_of rfl rfl (by
  simp +contextual (disch:=omega) [-getElem?_pos,-List.length_eq_zero_iff,-Int.natCast_eq_zero,wrap64,v_r22_Flow])
theorem c_r22_Balance (a b:Ds) (r:Dr) (G:List GObj):Lim F 33 [dst a,dst b,dr r] G = some (.bool (decide (balP a b r)),G) :=
 eq_of rfl rfl (by
  generalize hW:decide (balP a b r) = W
  simp +contextual (disch:=omega) [-getElem?_pos,-List.length_eq_zero_iff,-Int.natCast_eq_zero,wrap64,v_r22_Balance]
  refine go_loop (fun i:Nat => v_r22_Balance_s0 (ints (balL a b r)) 7 i a.row b.row r.row G) (fun i => i ≤ 7 ∧ ∀ j,j < i → balIn (nth (balL a b r) j)) (fun i => 7 - i) 0 rfl (by simp [balL]) ⟨by omega,by omega⟩ ?_
  rintro i ⟨hi,hj⟩
  have hlen:(balL a b r).length = 7:=rfl
  simp +contextual (disch:=omega) [-getElem?_pos,-List.length_eq_zero_iff,-Int.natCast_eq_zero,wrap64,v_r22_Balance_b0]
  refine cnd_dec (fun h1 => ?_) (fun h1 => ?_)
  ·have h1:i < (balL a b r).length:=by omega
   by_cases h2:balIn (nth (balL a b r) i)
   ·have h3:(decide (0 ≤ nth (balL a b r) i) && decide (nth (balL a b r) i ≤ 274877906944)) = true:=by simp;exact h2
    simp +contextual (disch:=omega) [-getElem?_pos,-List.length_eq_zero_iff,-Int.natCast_eq_zero,wrap64,get_int (l:=balL a b r),c_r01_In,h3]
    refine rnd_next (i + 1) (by simp) ⟨by omega,fun j hj2 => ?_⟩ (by omega)
    rcases Nat.lt_or_ge j i with h4 | h4
    ·exact hj j h4
    ·rwa [show j = i by omega]
   ·have h3:(decide (0 ≤ nth (balL a b r) i) && decide (nth (balL a b r) i ≤ 274877906944)) = false:=by
     have h2:¬ (0 ≤ nth (balL a b r) i ∧ nth (balL a b r) i ≤ 274877906944):=h2
     simp;omega
    simp +contextual (disch:=omega) [-getElem?_pos,-List.length_eq_zero_iff,-Int.natCast_eq_zero,wrap64,get_int (l:=balL a b r),c_r01_In,h3]
    rw [← hW,decide_eq_false (fun h:balP a b r => h2 (h.1 i (by omega)))]
  ·have hj:∀ j,j < 7 → balIn (nth (balL a b r) j):=fun j h => hj j (by omega)
   have b0:0 ≤ a.v ∧ a.v ≤ 274877906944:=hj 0 (by omega)
   have b1:0 ≤ b.v ∧ b.v ≤ 274877906944:=hj 1 (by omega)
   have b2:0 ≤ r.inf ∧ r.inf ≤ 274877906944:=hj 2 (by omega)
   have b3:0 ≤ r.los ∧ r.los ≤ 274877906944:=hj 3 (by omega)
   have b4:0 ≤ r.tur ∧ r.tur ≤ 274877906944:=hj 4 (by omega)
   have b5:0 ≤ r.spi ∧ r.spi ≤ 274877906944:=hj 5 (by omega)
   have b6:0 ≤ r.ovr ∧ r.ovr ≤ 274877906944:=hj 6 (by omega)
   simp (disch:=omega) only [wrap64]
   rw [← hW]
   refine decide_eq_decide.2 ⟨fun h => ⟨hj,h⟩,fun h => h.2⟩)
end Go.Proofs.YtfjdfnegookkcaaGreat
namespace Go.Proofs.YtfjdfnegookkcaaGreat
set_option linter.all false
open Go.Vm
attribute [local simp] cond_yes cond_yes2 int_beq int_bne
abbrev drsT (t:Option Nat) (l:List Dr):V:=.slice t 7 (l.map Dr.row)
theorem rnT_form (d:Dm) (s:Ds) (A B C:List Int):∃ X R e,(∀ t,∃ t',rnT t d s A B C = .tuple [dstT t' t' X,drsT (some 0) R,i64 e]) ∧ X.u.length ≤ 1000 ∧ X.g.length ≤ 1000 ∧ R.length ≤ 5000:=by
 by_cases h:rnE d s A B C = 0
 ·have hd:dE d s = 0 ∧ A.length ≤ 4096 ∧ okA A B C:=by
   unfold rnE at h
   split at h
   ·exact absurd h (by decide)
   ·split at h
    ·exact absurd h (by decide)
    ·split at h
     ·rename_i h1;exact absurd h h1
     ·split at h
      ·rename_i h1 h2 h3;exact ⟨Decidable.of_not_not h2,by omega,h3⟩
      ·exact absurd h (by decide)
  obtain ⟨hdv,hf⟩:=dE_zero hd.1
  have hq:=rnS_fit hdv hf A.length fun j hj => hd.2.2 j hj
  have h1:=hq.2.2.1
  have h2:=hq.2.2.2.1
  have h3:=hdv.u
  have h4:=hdv.g
  exact ⟨_,_,0,fun t => ⟨t,rnT_ok h⟩,by omega,by omega,by rw [rnL_len];omega⟩
 ·exact ⟨⟨0,0,[],[]⟩,[],_,fun t => ⟨some 0,rnT_err rfl h⟩,by simp,by simp,by simp⟩
structure L3 where
 a:List Int
 b:List Int
 c:List Int
 deriving Inhabited
abbrev L3.row (t:L3):List V:=[ints t.a,ints t.b,ints t.c]
set_option maxRecDepth 100000 in
set_option maxHeartbeats 4000000 in
theorem druns_walk {l:List Int} (hl:l.length ≤ 9223372036854775807) (rr:Dr) (rs rt:Ds) (hu:rs.u.length ≤ 5864062014805) (hg:rs.g.length ≤ 8796093022208) (rl:List Int):∃ G',Lim F 6 [dr rr,dst rs,dst rt,ints l,ints rl] [] = some (.bool true,G'):=by
 suffices h:Ret (Lim F) 6 [dr rr,dst rs,dst rt,ints l,ints rl] [] fun v G => v = .bool true by
  obtain ⟨_,G,h,rfl⟩:=h
  exact ⟨G,h⟩
 refine ret_of rfl rfl ?_
 by_cases b1:(20:Int) < rl.length
 ·simp (config:={ maxSteps:=2000000 }) +contextual (disch:=omega) [-getElem?_pos,-List.length_eq_zero_iff,-Int.natCast_eq_zero,wrap64,v_w22_DamRuns,b1,c_awake22]
 ·obtain ⟨d,s,k1,n1,hd1,hw⟩:=c_mk_Dam (l:=l) (k:=0) ⟨by omega,hl⟩
  have hr:=(dv_of hw.chk).r
  have hsu:s.u.length ≤ 2:=by have:=hw.fit.2.2.1;have:=hw.u2;omega
  have hsg:s.g.length ≤ 2:=by have:=hw.fit.2.2.2.1;have:=hw.g2;omega
  obtain ⟨n,k2,n2,hd2,hn⟩:=c_Next hd1 8 (by omega)
  obtain ⟨n,rfl⟩:=Int.eq_ofNat_of_zero_le hn.1
  obtain ⟨A,k3,n3,hd3,hA,_⟩:=c_mk_Flows' hd2 (n:=n) (m:=60) (by omega) (by omega)
  obtain ⟨B,k4,n4,hd4,hB,_⟩:=c_mk_Flows' hd3 (n:=n) (m:=20) (by omega) (by omega)
  obtain ⟨C,k5,n5,hd5,hC,_⟩:=c_mk_Flows' hd4 (n:=n) (m:=60) (by omega) (by omega)
  have m1:=c_Mod (n:=rr.tur) (m:=274877906945) (by omega) []
  have m2:=c_Mod (n:=rr.spi) (m:=274877906945) (by omega) []
  have m3:=c_Mod (n:=rr.ovr) (m:=274877906945) (by omega) []
  have r1:=modV_range (v:=rr.tur) (n:=274877906945) (by omega) (by omega)
  have r2:=modV_range (v:=rr.spi) (n:=274877906945) (by omega) (by omega)
  have r3:=modV_range (v:=rr.ovr) (n:=274877906945) (by omega) (by omega)
  generalize modV rr.tur 274877906945 = q1 at m1 r1
  generalize modV rr.spi 274877906945 = q2 at m2 r2
  generalize modV rr.ovr 274877906945 = q3 at m3 r3
  simp (config:={ maxSteps:=2000000 }) +contextual (disch:=omega) [-getElem?_pos,-List.length_eq_zero_iff,-Int.natCast_eq_zero,wrap64,v_w22_DamRuns,b1,c_New,n1,n2,n3,n4,n5]
  refine go_loop (fun x:Nat × Nat => v_w22_DamRuns_s1 (.gptr 0 0) (.slice none 3 ([⟨A,B,C⟩,⟨rl,B,C⟩,⟨A,B,rl⟩].map L3.row)) 3 x.1 rr.row rs.row rt.row d.row s.row [dk l x.2]) (fun x => x.1 ≤ 3 ∧ okd l x.2) (fun x => 3 - x.1) (0,k5) rfl (by simp) ⟨by simp,hd5⟩ ?_
  rintro ⟨i,k⟩ ⟨hi,hd⟩
  simp only at hi hd
  generalize hxs:[(⟨A,B,C⟩:L3),⟨rl,B,C⟩,⟨A,B,rl⟩] = xs
  have hxl:xs.length = 3:=by rw [← hxs];rfl
  obtain ⟨s',k6,tu,tg,n6,hd6,hu2,hg2⟩:=c_odd hd hr s (by omega) (by omega)
  simp (config:={ maxSteps:=2000000 }) +contextual (disch:=omega) [-getElem?_pos,-List.length_eq_zero_iff,-Int.natCast_eq_zero,wrap64,v_w22_DamRuns_b1]
  refine cnd_dec (fun h1 => ?_) (fun h1 => ?_)
  ·have h1:i < xs.length:=by omega
   simp (config:={ maxSteps:=2000000 }) +contextual (disch:=omega) [-getElem?_pos,-List.length_eq_zero_iff,-Int.natCast_eq_zero,wrap64,get_nth (l:=xs),n6]
   generalize nth xs i = X at *
   refine go_loop (fun j:Nat => v_w22_DamRuns_s0 (.gptr 0 0) (.slice none 3 (xs.map L3.row)) 3 i (.slice none 4 ([s,rs,s'].map Ds.row)) 3 j rr.row rs.row rt.row d.row s.row X.row [dk l k6]) (fun j => j ≤ 3) (fun j => 3 - j) 0 rfl (by simp) (by omega) ?_
   intro j hj
   generalize hys:[s,rs,s'] = ys
   have hyl:ys.length = 3:=by rw [← hys];rfl
   have hyu:∀ j,j < ys.length → (nth ys j).u.length ≤ 5864062014805 ∧ (nth ys j).g.length ≤ 8796093022208:=by
    rw [← hys]
    intro j hj
    have hj:j < 3:=hj
    have:j = 0 ∨ j = 1 ∨ j = 2:=by omega
    rcases this with rfl | rfl | rfl
    ·exact (show s.u.length ≤ 5864062014805 ∧ s.g.length ≤ 8796093022208 by omega)
    ·exact ⟨hu,hg⟩
    ·exact (show s'.u.length ≤ 5864062014805 ∧ s'.g.length ≤ 8796093022208 by omega)
   simp (config:={ maxSteps:=2000000 }) +contextual (disch:=omega) [-getElem?_pos,-List.length_eq_zero_iff,-Int.natCast_eq_zero,wrap64,v_w22_DamRuns_b0]
   refine cnd_dec (fun h2 => ?_) (fun h2 => ?_)
   ·have h2:j < ys.length:=by omega
    have hy:=hyu j h2
    have s1:=c_dam_Run' d (nth ys j) X.a X.b X.c
    obtain ⟨t2,s2⟩:=c_r22_Run d (nth ys j) hy.1 hy.2 X.a X.b X.c
    obtain ⟨Z,R,e,hZ,z1,z2,z3⟩:=rnT_form d (nth ys j) X.a X.b X.c
    obtain ⟨t3,h3⟩:=hZ none
    obtain ⟨t4,h4⟩:=hZ t2
    rw [show rnAns d (nth ys j) X.a X.b X.c = rnT none d (nth ys j) X.a X.b X.c from rfl,h3] at s1
    rw [h4] at s2
    have hSm:=c_r22_Same_refl Z (by omega) (by omega) []
    have hSr:=c_r22_SameRecords_refl R (by omega) []
    simp (config:={ maxSteps:=2000000 }) +contextual (disch:=omega) [-getElem?_pos,-List.length_eq_zero_iff,-Int.natCast_eq_zero,wrap64,get_nth (l:=ys),s1,s2,hSm,hSr]
    refine rnd_next (j + 1) (by simp) (by omega) (by omega)
   ·refine rnd_next (i + 1,k6) (by simp) ⟨by simp only;omega,hd6⟩ (by simp only;omega)
  ·have e1:=c_dam_Flow ⟨0,0,q1,q2,q3,0,0⟩ (by simp only;omega) (by simp only;omega) (by simp only;omega) []
   have e2:=c_r22_Flow ⟨0,0,q1,q2,q3,0,0⟩ (by simp only;omega) (by simp only;omega) (by simp only;omega) []
   have e3:=c_dam_Balance rs rt rr []
   have e4:=c_r22_Balance rs rt rr []
   generalize decide (balP rs rt rr) = bb at e3 e4
   simp (config:={ maxSteps:=2000000 }) +contextual (disch:=omega) [-getElem?_pos,-List.length_eq_zero_iff,-Int.natCast_eq_zero,wrap64,m1,m2,m3,e1,e2,e3,e4,c_awake22]
end Go.Proofs.YtfjdfnegookkcaaGreat
namespace Go.Proofs.YtfjdfnegookkcaaGreat
set_option linter.all false
open Go.Vm
open Go.ChangeShapes Go.WideShapes Go.ChangeAt Go.RowKit
theorem usw_row {H:Type} {d:Nat} {vs:List V} {x:DataW H} (h:TyW Tryz.prog d 95 vs x):∃ s:Us,vs = s.row ∧ True:=by
 have h:=h.1
 have hl:=tyv_len (n:=3) (by kernel_rfl) h
 obtain ⟨a0,h0,_⟩:=tyv_fint (i:=0) (off:=0) (ty:=3) (k:=.i64) (by kernel_rfl) (by kernel_rfl) h
 obtain ⟨a1,h1,_⟩:=tyv_fint (i:=1) (off:=1) (ty:=3) (k:=.i64) (by kernel_rfl) (by kernel_rfl) h
 obtain ⟨_,_,g2⟩:=tyv_field (i:=2) (off:=2) (n:=1) (ty:=4) (by kernel_rfl) h
 obtain ⟨a2,h2⟩:=tyv_bool (by kernel_rfl) g2
 match vs,hl with
 | [b0,b1,b2],_ =>
   simp at h0 h1 h2
   subst h0;subst h1;subst h2
   exact ⟨⟨a0,a1,a2⟩,rfl,trivial⟩
theorem gsw_row {H:Type} {d:Nat} {vs:List V} {x:DataW H} (h:TyW Tryz.prog d 101 vs x):∃ s:Gs,vs = s.row ∧ True:=by
 have h:=h.1
 have hl:=tyv_len (n:=2) (by kernel_rfl) h
 obtain ⟨a0,h0,_⟩:=tyv_fint (i:=0) (off:=0) (ty:=3) (k:=.i64) (by kernel_rfl) (by kernel_rfl) h
 obtain ⟨_,_,g2⟩:=tyv_field (i:=1) (off:=1) (n:=1) (ty:=4) (by kernel_rfl) h
 obtain ⟨a2,h2⟩:=tyv_bool (by kernel_rfl) g2
 match vs,hl with
 | [b0,b1],_ =>
   simp at h0 h2
   subst h0;subst h2
   exact ⟨⟨a0,a2⟩,rfl,trivial⟩
theorem dsw_row {H:Type} {d:Nat} {vs:List V} {x:DataW H} (h:TyW Tryz.prog d 35 vs x):∃ u:Ds,vs = u.row ∧ u.u.length ≤ 5864062014805 ∧ u.g.length ≤ 8796093022208:=by
 have hl:=tyv_len (n:=4) (by kernel_rfl) h.1
 obtain ⟨a0,h0,_⟩:=tyv_fint (i:=0) (off:=0) (ty:=3) (k:=.i64) (by kernel_rfl) (by kernel_rfl) h.1
 obtain ⟨a1,h1,_⟩:=tyv_fint (i:=1) (off:=1) (ty:=3) (k:=.i64) (by kernel_rfl) (by kernel_rfl) h.1
 obtain ⟨_,_,g2⟩:=tyw_field (i:=2) (off:=2) (n:=1) (ty:=32) (by kernel_rfl) h
 obtain ⟨_,_,g3⟩:=tyw_field (i:=3) (off:=3) (n:=1) (ty:=33) (by kernel_rfl) h
 obtain ⟨u,h2,_,w2⟩:=tyw_slice (e:=95) Us.row (fun _ => True) (by kernel_rfl) (fun d vs x h => usw_row h) g2
 obtain ⟨g,h3,_,w3⟩:=tyw_slice (e:=101) Gs.row (fun _ => True) (by kernel_rfl) (fun d vs x h => gsw_row h) g3
 have c2:Tryz.prog.cellsOf 95 = 3:=by kernel_rfl
 have c3:Tryz.prog.cellsOf 101 = 2:=by kernel_rfl
 have b2:Tryz.prog.bytesOf 95 = 24:=by kernel_rfl
 have b3:Tryz.prog.bytesOf 101 = 16:=by kernel_rfl
 rw [b2] at w2
 rw [b3] at w3
 unfold reachBytes at w2 w3
 rw [c2] at h2
 rw [c3] at h3
 match vs,hl with
 | [b0,b1,b2,b3],_ =>
   simp at h0 h1 h2 h3
   subst h0;subst h1;subst h2;subst h3
   exact ⟨⟨a0,a1,u,g⟩,rfl,by simp only;omega,by simp only;omega⟩
theorem dr_row {H:Type} {d:Nat} {vs:List V} {x:DataW H} (h:TyW Tryz.prog d 43 vs x):∃ u:Dr,vs = u.row ∧ True:=by
 have h:=h.1
 have hl:=tyv_len (n:=7) (by kernel_rfl) h
 obtain ⟨a0,h0,_⟩:=tyv_fint (i:=0) (off:=0) (ty:=3) (k:=.i64) (by kernel_rfl) (by kernel_rfl) h
 obtain ⟨a1,h1,_⟩:=tyv_fint (i:=1) (off:=1) (ty:=3) (k:=.i64) (by kernel_rfl) (by kernel_rfl) h
 obtain ⟨a2,h2,_⟩:=tyv_fint (i:=2) (off:=2) (ty:=3) (k:=.i64) (by kernel_rfl) (by kernel_rfl) h
 obtain ⟨a3,h3,_⟩:=tyv_fint (i:=3) (off:=3) (ty:=3) (k:=.i64) (by kernel_rfl) (by kernel_rfl) h
 obtain ⟨a4,h4,_⟩:=tyv_fint (i:=4) (off:=4) (ty:=3) (k:=.i64) (by kernel_rfl) (by kernel_rfl) h
 obtain ⟨a5,h5,_⟩:=tyv_fint (i:=5) (off:=5) (ty:=3) (k:=.i64) (by kernel_rfl) (by kernel_rfl) h
 obtain ⟨a6,h6,_⟩:=tyv_fint (i:=6) (off:=6) (ty:=3) (k:=.i64) (by kernel_rfl) (by kernel_rfl) h
 match vs,hl with
 | [b0,b1,b2,b3,b4,b5,b6],_ =>
   simp at h0 h1 h2 h3 h4 h5 h6
   subst h0;subst h1;subst h2;subst h3;subst h4;subst h5;subst h6
   exact ⟨⟨a0,a1,a2,a3,a4,a5,a6⟩,rfl,trivial⟩
end Go.Proofs.YtfjdfnegookkcaaGreat
