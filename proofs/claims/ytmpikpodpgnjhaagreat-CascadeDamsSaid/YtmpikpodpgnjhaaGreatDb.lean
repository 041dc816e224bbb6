/- Parts of the proof, joined: Dsp1, Dsp2, Dsp3, Dsp4, Dsp5, Dsp6, Dsp7, Dsp8. -/
import Derived.Test.YtmpikpodpgnjhaaGreatDa
namespace Go.Proofs.YtmpikpodpgnjhaaGreat
set_option linter.all false
open Go.Vm
attribute [local simp] eQ eR eO eP
theorem sH{α:Type}[Inhabited α]{l:List α}{i:Nat}(h:i<l.length):l.drop i=nth l i::l.drop (i+1):=by
 rw[List.drop_eq_getElem_cons h];simp[nth,List.getD,h]
def gf:List Int→List Int→Int
 |[],[]=>0
 |[],_::_ => -1
 |_::_,[]=>1
 |a::p,b::q=>if a<b then -1 else if b<a then 1 else gf p q
theorem Ms(a:Int)(G:List aV):bo F 235 [i64 a] G=some (.bool false,G) :=
 cg rfl rfl (by simp[wrap64,L4])
theorem Mt(a b:Int)(G:List aV):bo F 232 [i64 a,i64 b] G=some (i64 (if a<b then -1 else if b<a then 1 else 0),G) :=
 cg rfl rfl (by
  by_cases h1:a<b
  ·simp[wrap64,DS,Ms,h1]
  ·by_cases h2:b<a
   ·simp[wrap64,DS,Ms,h1,h2]
   ·simp[wrap64,DS,Ms,h1,h2])
theorem agU(p q:List Int)(hp:p.length≤4294967296)(G:List aV):bo F 226 [ints p,ints q] G=some (i64 (gf p q),G) :=
 cg rfl rfl (by
  generalize hW:gf p q=W;simp (disch:=omega) [-getElem?_pos,wrap64,L3];refine go_loop (fun i:Nat=>adP (ints p) (ints q) (ints p) p.length i G) (fun i=>i≤p.length∧i≤q.length∧gf (p.drop i) (q.drop i)=W) (fun i=>p.length-i) 0 rfl (by simp) ⟨by omega,by omega,by simpa using hW⟩ ?_
  rintro i ⟨h1,h2,h3⟩;simp (disch:=omega) [-getElem?_pos,wrap64,Tc];refine b9 (fun h4=>?_) (fun h4=>?_)
  ·have h4:i<p.length:=by omega
   rw[sH h4]at h3;by_cases h5:i<q.length
   ·rw[sH h5,gf]at h3
    have h6:¬q.length≤i:=by omega
    by_cases h7:nth p i<nth q i
    ·rw[if_pos h7]at h3
     simp (disch:=omega) [-getElem?_pos,wrap64,ez,Mt,h6,h7];exact h3
    ·rw[if_neg h7]at h3
     by_cases h8:nth q i<nth p i
     ·rw[if_pos h8]at h3
      simp (disch:=omega) [-getElem?_pos,wrap64,ez,Mt,h6,h7,h8];exact h3
     ·rw[if_neg h8]at h3
      simp (disch:=omega) [-getElem?_pos,wrap64,ez,Mt,h6,h7,h8];exact cc (i+1) (by simp) ⟨by omega,by omega,h3⟩ (by omega)
   ·obtain rfl:i=q.length:=by omega
    rw[List.drop_length,gf]at h3;simp (disch:=omega) [-getElem?_pos,wrap64,ez];exact h3
  ·obtain rfl:i=p.length:=by omega
   rw[List.drop_length]at h3;refine b9 (fun h5=>?_) (fun h5=>?_)
   ·have h6:p.length<q.length:=by omega
    rw[sH h6,gf]at h3;exact h3
   ·obtain h6:q.drop p.length=[]:=List.drop_eq_nil_iff.2 (by omega)
    rw[h6,gf]at h3;exact h3)
abbrev G7(a:Int×Int):V:=.agg [i64 a.1,i64 a.2]
def jz(a b:Int×Int)(p q:List Int):Prop:=if a.1≠b.1 then b.1<a.1 else if a.2≠b.2 then a.2<b.2 else gf p q<0
instance {a b:Int×Int} {p q:List Int}:Decidable (jz a b p q):=by unfold jz;infer_instance
theorem agV(a b:Int×Int)(p q:List Int)(hp:p.length≤4294967296)(G:List aV):bo F 219 [G7 a,G7 b,ints p,ints q] G=some (.bool (decide (jz a b p q)),G) :=
 cg rfl rfl (by
  generalize hW:decide (jz a b p q)=W;simp only[jz]at hW;obtain⟨a1,a2⟩:=a;obtain⟨b1,b2⟩:=b;simp only at hW;by_cases h1:a1=b1
  ·by_cases h2:a2=b2
   ·simp[wrap64,DQ,agU p q hp,h1,h2]
    simpa [h1,h2] using hW
   ·simp[wrap64,DQ,h1,h2]
    simpa [h1,h2] using hW
  ·simp[wrap64,DQ,h1]
   simpa [h1] using hW)
theorem agW(p q:List Int)(hp:p.length≤4294967296)(G:List aV):bo F 188 [ints p,ints q] G=some (.bool (decide (gf p q<0)),G) :=
 cg rfl rfl (by
  generalize hW:gf p q=W;simp (disch:=omega) [-getElem?_pos,wrap64,LG];refine go_loop (fun i:Nat=>acY (ints p) (ints q) p.length i G) (fun i=>i≤p.length∧i≤q.length∧gf (p.drop i) (q.drop i)=W) (fun i=>p.length-i) 0 rfl (by simp) ⟨by omega,by omega,by simpa using hW⟩ ?_
  rintro i ⟨h1,h2,h3⟩;simp (disch:=omega) [-getElem?_pos,wrap64,SL];refine b9 (fun h4=>?_) (fun h4=>?_)
  ·have h4:i<p.length:=by omega
   rw[sH h4]at h3;by_cases h5:i<q.length
   ·rw[sH h5,gf]at h3
    have h6:¬q.length≤i:=by omega
    by_cases h7:nth p i<nth q i
    ·rw[if_pos h7]at h3
     have h9:¬nth p i=nth q i:=by omega
     subst h3;simp (disch:=omega) [-getElem?_pos,wrap64,ez,h6,h7,h9,h5]
    ·rw[if_neg h7]at h3
     by_cases h8:nth q i<nth p i
     ·rw[if_pos h8]at h3
      have h9:¬nth p i=nth q i:=by omega
      subst h3;simp (disch:=omega) [-getElem?_pos,wrap64,ez,h6,h7,h9,h5]
     ·rw[if_neg h8]at h3
      have h9:nth p i=nth q i:=by omega
      simp (disch:=omega) [-getElem?_pos,wrap64,ez,h6,h9,h5];exact cc (i+1) (by simp) ⟨by omega,by omega,h3⟩ (by omega)
   ·obtain rfl:i=q.length:=by omega
    rw[List.drop_length,gf]at h3;subst h3;simp (disch:=omega) [-getElem?_pos,wrap64,ez]
  ·obtain rfl:i=p.length:=by omega
   rw[List.drop_length]at h3;by_cases h6:p.length<q.length
   ·rw[sH h6,gf]at h3
    subst h3;simp[h6]
   ·have h7:q.drop p.length=[]:=List.drop_eq_nil_iff.2 (by omega)
    rw[h7,gf]at h3;subst h3;simp;omega)
theorem Ty(a b:Int×Int)(p q:List Int)(hp:p.length≤4294967296)(G:List aV):bo F 168 [G7 a,G7 b,ints p,ints q] G=some (.bool (decide (jz a b p q)),G) :=
 cg rfl rfl (by
  generalize hW:decide (jz a b p q)=W;simp only[jz]at hW;obtain⟨a1,a2⟩:=a;obtain⟨b1,b2⟩:=b;simp only at hW;by_cases h1:a1=b1
  ·by_cases h2:a2=b2
   ·simp[wrap64,DN,agW p q hp,h1,h2]
    simpa [h1,h2] using hW
   ·simp[wrap64,DN,h1,h2]
    simpa [h1,h2] using hW
  ·simp[wrap64,DN,h1]
   simpa [h1] using hW)
end Go.Proofs.YtmpikpodpgnjhaaGreat
namespace Go.Proofs.YtmpikpodpgnjhaaGreat
set_option linter.all false
open Go.Vm
attribute [local simp] eQ eR eO eP
def jm(u:Un)(s:Us)(q:Int):Prop:=fc u s∧jx u s q
noncomputable instance {u:Un} {s:Us} {q:Int}:Decidable (jm u s q):=by unfold jm;infer_instance
def il(s:Us)(q:Int):Int:=if 0<q∧s.cq=0 then 1 else 0
noncomputable def vU:List Un→List Us→List Int→Int×Int×Int→Option (Int×Int×Int)
 |u::us,s::ss,f::fs,a=>if jm u s f then vU us ss fs (a.1+f,a.2.1+pow u f,a.2.2+il s f) else none
 |_,_,_,a=>some a
noncomputable def y4(us:List Un)(ss:List Us)(fs:List Int):Option (Int×Int×Int):=if us.length=ss.length∧us.length=fs.length then vU us ss fs (0,0,0) else none
def Bq:Option (Int×Int×Int)→V
 |some (a,b,c)=>.tuple [i64 a,i64 b,i64 c,.bool true]
 |none=>.tuple [i64 0,i64 0,i64 0,.bool false]
theorem G8{u:Un}{s:Us}{q:Int}(h:jm u s q):0≤q∧q≤1073741824:=by
 obtain⟨⟨hc,_⟩,h2⟩:=h;have hu:=oT hc;have:=hu.least;have:=hu.Md;unfold jx at h2;split at h2
 ·omega
 ·have a:=h2.2.2.1
  have b:=h2.2.2.2.1;omega
theorem G9{u:Un}{q:Int}:0≤pow u q∧pow u q≤1073741824:=by
 unfold pow;split
 ·rename_i h
  have hu:=oT h.1;have hp:=hu.cv.pos;have a:=Bn hu.cv q;have b:=hu.top;have c:=(hu.cv.y0 0 (by omega)).1
  omega
 ·omega
theorem Mu{s:Us}{q:Int}:0≤il s q∧il s q≤1:=by unfold il;split<;>omega
theorem Tz(us:List Un)(ss:List Us)(fs:List Int)(hn:us.length≤1000)(G:List aV):bo F 121 [jQ us,jy ss,ints fs] G=some (Bq (y4 us ss fs),G) :=
 cg rfl rfl (by
  generalize hW:Bq (y4 us ss fs)=W;unfold y4 at hW;by_cases h1:us.length=ss.length
  ·by_cases h2:us.length=fs.length
   ·rw[if_pos ⟨h1,h2⟩]at hW
    simp +contextual (disch:=omega) [-getElem?_pos,wrap64,DI,← h1,← h2];refine go_loop (fun x:Nat×Int×Int×Int=>abz (jy ss) (ints fs) x.2.1 x.2.2.1 x.2.2.2 (jQ us) us.length x.1 G)
     (fun x=>x.1≤us.length∧Bq (vU (us.drop x.1) (ss.drop x.1) (fs.drop x.1) (x.2.1,x.2.2.1,x.2.2.2))=W∧(0≤x.2.1∧x.2.1≤1073741824*(x.1:Int))∧(0≤x.2.2.1∧x.2.2.1≤1073741824*(x.1:Int))∧0≤x.2.2.2∧x.2.2.2≤x.1) (fun x=>us.length-x.1) (0,0,0,0) rfl (by simp) (by simpa using hW) ?_
    rintro⟨i,a,b,c⟩ ⟨hi,hq,ha,hb,hc⟩;simp only at hi hq ha hb hc;simp +contextual (disch:=omega) [-getElem?_pos,wrap64,R0];refine b9 (fun h4=>?_) (fun h4=>?_)
    ·have h4:i<us.length:=by omega
     have h5:i<ss.length:=by omega
     have h6:i<fs.length:=by omega
     rw[sH h4,sH h5,sH h6,vU]at hq;by_cases h7:jm (nth us i) (nth ss i) (nth fs i)
     ·rw[if_pos h7]at hq
      have r1:=G8 h7;have r2:=G9 (u:=nth us i) (q:=nth fs i);have r3:=Mu (s:=nth ss i) (q:=nth fs i);have h8:decide (fc (nth us i) (nth ss i)∧jx (nth us i) (nth ss i) (nth fs i))=true:=decide_eq_true h7;simp only at hq;have Mv:i+1≤us.length∧Bq (vU (us.drop (i+1)) (ss.drop (i+1)) (fs.drop (i+1)) (a+nth fs i,b+pow (nth us i) (nth fs i),c+il (nth ss i) (nth fs i)))=W ∧
        (0≤a+nth fs i∧a+nth fs i≤1073741824*((i+1:Nat):Int))∧(0≤b+pow (nth us i) (nth fs i)∧b+pow (nth us i) (nth fs i)≤1073741824*((i+1:Nat):Int))∧0≤c+il (nth ss i) (nth fs i)∧c+il (nth ss i) (nth fs i)≤(i+1:Nat) :=
       ⟨by omega,hq,by omega,by omega,by omega⟩
      have hN:=Mi (nth us i) (nth ss i) (nth fs i) [];have e:qH (nth us i) (nth ss i) (nth fs i)=0:=by
       obtain⟨⟨q1,q2⟩,q3⟩:=h7;simp[qH,q1,q3,show fc (nth us i) (nth ss i) from⟨q1,q2⟩]
      simp only[e,if_true]at hN;by_cases h9:0<nth fs i
      ·by_cases fQ:(nth ss i).cq=0
       ·have kg:il (nth ss i) (nth fs i)=1:=by simp[il,h9,fQ]
        simp +contextual (disch:=omega) [-getElem?_pos,wrap64,bp (l:=us),bp (l:=ss),ez,hN,Mh,h9];simp +contextual (disch:=omega) [-getElem?_pos,wrap64,fQ];exact cc (i+1,a+nth fs i,b+pow (nth us i) (nth fs i),c+il (nth ss i) (nth fs i)) (by simp[kg]) Mv (by simp;omega)
       ·have kg:il (nth ss i) (nth fs i)=0:=by simp[il,fQ]
        simp +contextual (disch:=omega) [-getElem?_pos,wrap64,bp (l:=us),bp (l:=ss),ez,hN,Mh,h9];simp +contextual (disch:=omega) [-getElem?_pos,wrap64,fQ];exact cc (i+1,a+nth fs i,b+pow (nth us i) (nth fs i),c+il (nth ss i) (nth fs i)) (by simp[kg]) Mv (by simp;omega)
      ·have kg:il (nth ss i) (nth fs i)=0:=by simp[il,h9]
       simp +contextual (disch:=omega) [-getElem?_pos,wrap64,bp (l:=us),bp (l:=ss),ez,hN,Mh,h9];exact cc (i+1,a+nth fs i,b+pow (nth us i) (nth fs i),c+il (nth ss i) (nth fs i)) (by simp[kg]) Mv (by simp;omega)
     ·rw[if_neg h7]at hq
      have hN:=Mi (nth us i) (nth ss i) (nth fs i) [];have e:¬qH (nth us i) (nth ss i) (nth fs i)=0:=fun e=>by
       unfold qH at e;split at e
       ·contradiction
       ·split at e
        ·cases e
        ·split at e
         ·cases e
         ·rename_i a1 a2 a3
          exact h7 ⟨Decidable.of_not_not a2,Decidable.of_not_not a3⟩
      simp only[e,if_false]at hN;simp +contextual (disch:=omega) [-getElem?_pos,wrap64,bp (l:=us),bp (l:=ss),ez,hN,e];exact hq
    ·obtain rfl:i=us.length:=by omega
     rw[List.drop_length,vU]at hq
     ·exact hq
     ·intro u mi s ss' f fs' e;cases e
   ·rw[if_neg (fun h=>h2 h.2)]at hW
    have h3:¬ss.length=fs.length:=by omega
    simp +contextual (disch:=omega) [-getElem?_pos,wrap64,DI,h1];refine gO (fun h=>?_) (fun h=>?_)
    ·exact hW
    ·simp[-List.length_eq_zero_iff,-Int.natCast_eq_zero]at h
     omega
  ·rw[if_neg (fun h=>h1 h.1)]at hW
   simp +contextual (disch:=omega) [-getElem?_pos,wrap64,DI];refine gO (fun h=>?_) (fun h=>?_)
   ·exact hW
   ·simp[-List.length_eq_zero_iff,-Int.natCast_eq_zero]at h
    omega)
end Go.Proofs.YtmpikpodpgnjhaaGreat
namespace Go.Proofs.YtmpikpodpgnjhaaGreat
set_option linter.all false
open Go.Vm
attribute [local simp] eQ eR eO eP
noncomputable def pt(u:Un)(s:Us)(g:Int):List Int:=(dedup (mF (fg u g++[0,s.cq]))).filter fun q=>decide (jm u s q)
noncomputable abbrev Ha(u:Un)(s:Us)(q:Int):List V:=[i64 q,i64 (pow u q),i64 (il s q)]
theorem jA{α:Type}[Inhabited α]{l:List α}{i:Nat}(h:i<l.length):l.take (i+1)=l.take i++[nth l i]:=by
 rw[List.take_add_one,bp h];rfl
theorem od{α:Type}[Inhabited α]{l m:List α}{i:Nat}(h:i<l.length):nth (l++m) i=nth l i:=by
 simp[nth,List.getElem?_append,h]
theorem TA{u:Un}{s:Us}{L Z:List Int}{G:List aV}{K:cR}(hL:L.length≤4294967296)
  (hK:∀z,K (.exit 0) ⟨[(3,.bJ 3 0),(4,.bJ 4 0),(10,.slice (some 1061) 3 ((L.filter fun q=>decide (jm u s q)).map (Ha u s))),(30,.b0 20026 1 L.length),(31,i64 L.length),(32,i64 L.length),(33,z)],[(3,u.row),(4,s.row),(20026,dR (L++Z))],[(1061,(L.filter fun q=>decide (jm u s q)).length)],G⟩) :
  go (bo F) Tb ⟨[(3,.bJ 3 0),(4,.bJ 4 0),(10,.aM),(30,.b0 20026 1 L.length),(31,i64 L.length),(32,i64 0)],[(3,u.row),(4,s.row),(20026,dR (L++Z))],[],G⟩ K:=by
 refine go_loop (fun i:Nat=>adL (.slice (some 1061) 3 (((L.take i).filter fun q=>decide (jm u s q)).map (Ha u s))) L.length L.length i u.row s.row (dR (L++Z)) ((L.take i).filter fun q=>decide (jm u s q)).length G) (fun i=>i≤L.length) (fun i=>L.length-i) 0 rfl (by simp) (by omega) ?_
 intro i hi;have hlen:((L.take i).filter fun q=>decide (jm u s q)).length≤i:=Nat.le_trans (List.length_filter_le _ _) (by simp;omega)
 simp (disch:=omega) [wrap64,Ta];refine b9 (fun h1=>?_) (fun h1=>?_)
 ·have h1:i<L.length:=by omega
  have h2:i<(L++Z).length:=by simp;omega
  have hM:=agK u s (nth L i) [];by_cases h3:jm u s (nth L i)
  ·have h4:decide (fc u s∧jx u s (nth L i))=true:=decide_eq_true h3
   rw[h4]at hM;have h5:(L.take (i+1)).filter (fun q=>decide (jm u s q))=(L.take i).filter (fun q=>decide (jm u s q))++[nth L i]:=by
    rw[jA h1,List.filter_append];simp[h3]
   by_cases h6:0<nth L i
   ·by_cases h7:s.cq=0
    ·have h8:il s (nth L i)=1:=by simp[il,h6,h7]
     simp (disch:=omega) [wrap64,kL h2,od h1,hM,DW,h6];simp (disch:=omega) [wrap64,h7];exact cc (i+1) (by rw[h5];simp[h8]) (by omega) (by omega)
    ·have h8:il s (nth L i)=0:=by simp[il,h7]
     simp (disch:=omega) [wrap64,kL h2,od h1,hM,DW,h6];simp (disch:=omega) [wrap64,h7];exact cc (i+1) (by rw[h5];simp[h8]) (by omega) (by omega)
   ·have h8:il s (nth L i)=0:=by simp[il,h6]
    simp (disch:=omega) [wrap64,kL h2,od h1,hM,DW,h6];exact cc (i+1) (by rw[h5];simp[h8]) (by omega) (by omega)
  ·have h4:decide (fc u s∧jx u s (nth L i))=false:=decide_eq_false h3
   rw[h4]at hM;have h5:(L.take (i+1)).filter (fun q=>decide (jm u s q))=(L.take i).filter (fun q=>decide (jm u s q)):=by
    rw[jA h1,List.filter_append];simp[h3]
   simp (disch:=omega) [wrap64,kL h2,od h1,hM];exact cc (i+1) (by rw[h5];simp) (by omega) (by omega)
 ·obtain rfl:i=L.length:=by omega
  rw[List.take_length];exact hK _
theorem agX{u:Un}{s:Us}(hv:fc u s){g:Int}(hg:1≤g∧g≤1073741824)(G:List aV):bo F 225 [un u,us s,i64 g] G =
  some (if gu u g=0 then .tuple [.slice (some 0) 3 ((pt u s g).map (Ha u s)),.bool true] else .tuple [.slice (some 0) 3 [],.bool false],G) :=
 cg rfl rfl (by
  by_cases he:gu u g=0
  ·have hlen:(fg u g).length≤200:=by
    unfold gu at he;split at he
    ·contradiction
    ·split at he
     ·cases he
     ·split at he
      ·cases he
      ·omega
   have hf:mR u g=fg u g:=by simp[mR,he]
   have hd:=AZ (mF (fg u g++[0,s.cq]));have hs:=(xd (fg u g++[0,s.cq])).length_eq;simp at hs;have hm:rU 1 (mF (fg u g++[0,s.cq]))=dedup (mF (fg u g++[0,s.cq]))++List.replicate ((mF (fg u g++[0,s.cq])).length-(dedup (mF (fg u g++[0,s.cq]))).length) 0:=rfl;have C8:∀l,rU 0 l=mF l:=fun _=>rfl;have hc:(pt u s g)=(dedup (mF (fg u g++[0,s.cq]))).filter fun q=>decide (jm u s q):=rfl;rw[if_pos he,hc];have ha:∀l:List Int,dR l++[i64 0,i64 s.cq]=dR (l++[0,s.cq]):=fun l=>by simp[dR]
   have hz:[i64 0,i64 s.cq]=dR [0,s.cq]:=rfl;have oH:(fg u g).length+2=(fg u g++[0,s.cq]).length:=by simp
   have yr:(mF (fg u g++[0,s.cq])).length=(fg u g++[0,s.cq]).length:=(xd _).length_eq;by_cases hn:fg u g=[]
   ·rw[hn]at hm hd hs hf yr ⊢
    simp only[List.nil_append]at hm hd hs yr ⊢;have e1:ky 20026 0 (.tuple [own [],i64 0])=some (.tuple [.eX 1,i64 0],none):=rfl;have h2:2=(mF [0,s.cq]).length:=by rw[yr];rfl
    simp (disch:=omega) [wrap64,DR,Mn,he,hf,e1,hz,FW (zs:=[0,s.cq]) (n:=2) rfl (by omega),C8,FW h2 (by omega),hm]
    refine TA (u:=u) (s:=s) (L:=dedup (mF [0,s.cq])) (by omega) fun z=>?_
    simp (disch:=omega) [wrap64,wrap64]
   ·have e1:=ZN (id:=20026) (t:=0) (e:=0) hn
    rw[←oH]at yr;simp (disch:=omega) [wrap64,DR,Mn,he,hf,e1,ha,FW oH (by omega),C8,FW yr.symm (by omega),hm]
    refine TA (u:=u) (s:=s) (L:=dedup (mF (fg u g++[0,s.cq]))) (by omega) fun z=>?_
    simp (disch:=omega) [wrap64,wrap64]
  ·rw[if_neg he]
   have hf:mR u g=[]:=by simp[mR,he]
   have e1:ky 20026 0 (.tuple [own [],i64 (gu u g)])=some (.tuple [.eX 1,i64 (gu u g)],none):=rfl;simp (disch:=omega) [wrap64,DR,Mn,he,hf,e1])
end Go.Proofs.YtmpikpodpgnjhaaGreat
namespace Go.Proofs.YtmpikpodpgnjhaaGreat
set_option linter.all false
open Go.Vm
attribute [local simp] eQ eR eO eP
def y5(us:List Un)(ss:List Us):Prop:=∀i,i<us.length→fc (nth us i) (nth ss i)
noncomputable instance {us:List Un} {ss:List Us}:Decidable (y5 us ss):=Classical.propDecidable _
def y6(us:List Un)(g:Int):Prop:=∀i,i<us.length→gu (nth us i) g=0
noncomputable instance {us:List Un} {g:Int}:Decidable (y6 us g):=Classical.propDecidable _
noncomputable def px(us:List Un)(ss:List Us)(g release:Int):Int :=
 if 6<us.length then 10 else if us.length≠ss.length then 3 else if ¬y5 us ss then 3
 else if g<1∨1073741824<g∨release<0∨1073741824<release then 1 else if 200*g<release then 10 else if ¬y6 us g then 10 else 0
noncomputable abbrev D2(g:Int)(u:Un)(s:Us):List V:=[.slice none 3 ((pt u s g).map (Ha u s))]
theorem vV{α β γ:Type}[Inhabited α][Inhabited β]{f:α→β→γ}{a:List α}{b:List β}{i:Nat}(h1:i<a.length)(h2:i<b.length) :
  List.zipWith f (a.take (i+1)) (b.take (i+1))=List.zipWith f (a.take i) (b.take i)++[f (nth a i) (nth b i)]:=by
 rw[jA h1,jA h2,List.zipWith_append (by simp;omega)]
 rfl
theorem agY(us:List Un)(ss:List Us)(g release:Int)(G:List aV):bo F 217 [jQ us,jy ss,i64 g,i64 release] G =
  some (.tuple [.slice (some 0) 1 (if px us ss g release=0 then List.zipWith (D2 g) us ss else []),i64 (px us ss g release)],G) :=
 cg rfl rfl (by
  generalize hE:px us ss g release=E;generalize hW:V.tuple [.slice (some 0) 1 (if E=0 then List.zipWith (D2 g) us ss else []),i64 E]=W
  unfold px at hE;simp +contextual (disch:=omega) [-getElem?_pos,wrap64,LZ];refine b9 (fun h1=>?_) (fun h1=>gO (fun h2=>?_) (fun h2=>?_))
  ·rw[if_pos (by omega)]at hE
   subst hE;exact hW
  ·simp[-List.length_eq_zero_iff,-Int.natCast_eq_zero]at h2
   rw[if_neg (by omega),if_pos (by omega)]at hE
   subst hE;exact hW
  ·simp[-List.length_eq_zero_iff,-Int.natCast_eq_zero]at h2
   have hl:us.length=ss.length:=by omega
   rw[if_neg (by omega),if_neg (by omega)]at hE
   refine go_loop (fun i:Nat=>adv (jQ us) (jy ss) g release (jQ us) us.length i G) (fun i=>i≤us.length∧∀j,j<i→fc (nth us j) (nth ss j)) (fun i=>us.length-i) 0 rfl (by simp) ⟨by omega,by omega⟩ ?_
   rintro i ⟨hi,hv⟩;simp +contextual (disch:=omega) [-getElem?_pos,wrap64,SY];refine b9 (fun h3=>?_) (fun h3=>?_)
   ·have h3:i<us.length:=by omega
    by_cases h4:fc (nth us i) (nth ss i)
    ·simp +contextual (disch:=omega) [-getElem?_pos,wrap64,bp (l:=us),bp (l:=ss),xh,h4]
     refine cc (i+1) (by simp) ⟨by omega,fun j hj=>?_⟩ (by omega)
     rcases Nat.lt_or_ge j i with h5|h5
     ·exact hv j h5
     ·rwa [show j=i by omega]
    ·rw[if_pos (fun h=>h4 (h i h3))]at hE
     subst hE;simp +contextual (disch:=omega) [-getElem?_pos,wrap64,bp (l:=us),bp (l:=ss),xh,h4];exact hW
   ·obtain rfl:i=us.length:=by omega
    rw[if_neg (fun h=>h hv)]at hE;by_cases h5:g<1∨1073741824<g
    ·rw[if_pos (by omega)]at hE
     subst hE;have h6:(decide (g<1) || decide (1073741824<g))=true:=by simpa using h5
     simp +contextual (disch:=omega) [-getElem?_pos,wrap64,dF,h6];exact hW
    ·have h6:(decide (g<1) || decide (1073741824<g))=false:=by simpa using h5
     by_cases h7:release<0∨1073741824<release
     ·rw[if_pos (by omega)]at hE
      subst hE;have h8:(!decide (0≤release) || !decide (release≤1073741824))=true:=by simp;omega
      simp +contextual (disch:=omega) [-getElem?_pos,wrap64,dF,h6,h8];exact hW
     ·rw[if_neg (by omega)]at hE
      have h8:(!decide (0≤release) || !decide (release≤1073741824))=false:=by simp;omega
      simp +contextual (disch:=omega) [-getElem?_pos,wrap64,dF,h6,h8];refine b9 (fun h9=>?_) (fun h9=>?_)
      ·rw[if_pos h9]at hE
       subst hE;exact hW
      ·rw[if_neg h9]at hE
       refine go_loop (fun i:Nat=>adx (jy ss) g (.slice (some 1079) 1 (List.zipWith (D2 g) (us.take i) (ss.take i))) (jQ us) us.length i i G)
        (fun i=>i≤us.length∧∀j,j<i→gu (nth us j) g=0) (fun i=>us.length-i) 0 rfl (by simp) ⟨by omega,by omega⟩ ?_
       rintro i ⟨hi,hf⟩;simp +contextual (disch:=omega) [-getElem?_pos,wrap64,SZ];refine b9 (fun h3=>?_) (fun h3=>?_)
       ·have h3:i<us.length:=by omega
        have fQ:i<ss.length:=by omega
        have hC:=agX (hv i h3) (g:=g) (by omega) []
        by_cases h4:gu (nth us i) g=0
        ·rw[if_pos h4]at hC
         simp +contextual (disch:=omega) [-getElem?_pos,wrap64,bp (l:=us),bp (l:=ss),hC];refine cc (i+1) ?_ ⟨by omega,fun j hj=>?_⟩ (by omega)
         ·rw[vV h3 fQ];simp
         rcases Nat.lt_or_ge j i with h5|h5
         ·exact hf j h5
         ·rwa [show j=i by omega]
        ·rw[if_neg h4]at hC
         rw[if_pos (fun h=>h4 (h i h3))]at hE;subst hE;simp +contextual (disch:=omega) [-getElem?_pos,wrap64,bp (l:=us),bp (l:=ss),hC];exact hW
       ·obtain rfl:i=us.length:=by omega
        rw[if_neg (fun h=>h hf)]at hE;subst hE;rw[List.take_length,List.take_of_length_le (by omega)]
        simp[←hW,hl])
end Go.Proofs.YtmpikpodpgnjhaaGreat
namespace Go.Proofs.YtmpikpodpgnjhaaGreat
set_option linter.all false
open Go.Vm
attribute [local simp] eQ eR eO eP
structure Ch where
 cq:Int
 jc:Int
 jd:Int
 deriving Inhabited
abbrev Ch.row(c:Ch):List V:=[i64 c.cq,i64 c.jc,i64 c.jd]
abbrev Mw(l:List Ch):List V:=[.slice none 3 (l.map Ch.row)]
abbrev Part:=Option (Int×Int×Int)
def iR:Part→List V
 |none=>[.bool false,i64 0,i64 0,i64 0]
 |some (p,s,f)=>[.bool true,i64 p,i64 s,i64 f]
@[simp] theorem aod{p:Part}{d:Nat}:((iR p).all fun v => !v.cQ d)=true:=by
 cases p with
 |none=>rfl
 |some q=>rfl
abbrev lG(p:Part):V:=.agg (iR p)
def c6(rest:Int→Part)(left:Int)(c:Ch)(out:Part):Part:=match rest (left-c.cq) with
 |none=>out
 |some (p,s,_)=>match out with
  |none=>some (p+c.jc,s+c.jd,c.cq)
  |some (q,t,f)=>if jz (p+c.jc,s+c.jd) (q,t) [] [] then some (p+c.jc,s+c.jd,c.cq) else some (q,t,f)
def oU(rest:Int→Part)(left:Int):List Ch→Part→Part
 |[],out=>out
 |c::cs,out=>if left<c.cq then out else oU rest left cs (c6 rest left c out)
def je:List (List Ch)→Int→Part
 |[],_=>some (0,0,0)
 |l::ls,left=>oU (je ls) left l none
def l7:List (List Ch)→Int→Option (List Int)
 |[],_=>some []
 |l::ls,left=>match je (l::ls) left with
  |none=>none
  |some (_,_,f)=>(l7 ls (left-f)).map (f :: ·)
abbrev xk:=List ((Int×Int)×Part)
def qa(m:xk):List (V×V):=m.map fun e=>(.agg [i64 e.1.1,i64 e.1.2],lG e.2)
def uN(LL:List (List Ch))(m:xk):Prop:=∀e∈m,∃i:Nat,e.1.1=i∧e.2=je (LL.drop i) e.1.2
def gl(n:Nat)(LL:List (List Ch))(m:xk):List aV:=[.cells [.slice none 1 (LL.map Mw)],.map (qa m),.cells [.map 1],.cells [.fn n [.bN 0 0,.bN 2 0,.bN 3 0]]]
theorem Mx{LL:List (List Ch)}{i:Nat}{left:Int}:∀{m:xk} {k:Nat},uN LL m →
  lP true [0,0] (.agg [i64 i,i64 left]) (qa m) k=some none∨∃j,lP true [0,0] (.agg [i64 i,i64 left]) (qa m) k=some (some (k+j,lG (je (LL.drop i) left)))∧j<m.length
 |[],k,_=>.inl rfl
 |e::m,k,h=>by
  obtain⟨⟨a,b⟩,p⟩:=e;obtain⟨i',h1,h2⟩:=h ((a,b),p) (by simp)
  simp only at h1 h2;have h3:∀x∈m,∃i:Nat,x.1.1=i∧x.2=je (LL.drop i) x.1.2:=fun x hx=>h x (by simp[hx])
  have step:lP true [0,0] (.agg [i64 i,i64 left]) (qa (((a,b),p)::m)) k=if (i:Int)=a∧left=b then some (some (k,lG p)) else lP true [0,0] (.agg [i64 i,i64 left]) (qa m) (k+1):=by
   show(match V.lO true [0,0] (.agg [i64 i,i64 left]) (.agg [i64 a,i64 b]) with|some true=>some (some (k,lG p))|some false=>lP true [0,0] (.agg [i64 i,i64 left]) (qa m) (k+1)|none=>none)=_
   have:V.lO true [0,0] (.agg [i64 i,i64 left]) (.agg [i64 a,i64 b])=some (decide ((i:Int)=a∧left=b)):=by
    simp[V.lO,eI,jI]<;>(by_cases q1:(i:Int)=a<;>by_cases q2:left=b<;>simp[q1,q2])
   rw[this];by_cases q:(i:Int)=a∧left=b
   ·simp[q]
   ·rw[decide_eq_false q,if_neg q]
  rw[step];split
  ·rename_i q
   refine .inr ⟨0,?_,by simp⟩
   have:i=i':=by omega
   subst this;rw[h2,← q.2];rfl
  ·rcases Mx (k:=k+1) h3 with h4 | ⟨j,h4,h5⟩
   ·exact .inl h4
   ·exact .inr ⟨j+1,by rw[h4];simp;omega,by simp;omega⟩
structure Lb(LL:List (List Ch)):Prop where
 jY:LL.length≤6
 each:∀i,i<LL.length→(nth LL i).length≤1000
 cq:∀i j,i<LL.length→j<(nth LL i).length→0≤(nth (nth LL i) j).cq∧(nth (nth LL i) j).cq≤1073741824
 jc:∀i j,i<LL.length→j<(nth LL i).length→0≤(nth (nth LL i) j).jc∧(nth (nth LL i) j).jc≤1073741824
 jd:∀i j,i<LL.length→j<(nth LL i).length→0≤(nth (nth LL i) j).jd∧(nth (nth LL i) j).jd≤1
def pb(k:Int):Part→Prop
 |none=>True
 |some (p,s,f)=>(0≤p∧p≤1073741824*k)∧(0≤s∧s≤k)∧0≤f
theorem TB{rest:Int→Part}{left k:Int}(hr:∀x,pb k (rest x)):∀{l:List Ch} {out:Part},pb (k+1) out →
  (∀c∈l,0≤c.cq∧(0≤c.jc∧c.jc≤1073741824)∧0≤c.jd∧c.jd≤1)→pb (k+1) (oU rest left l out)
 |[],out,h,_=>h
 |c::cs,out,h,hc=>by
  unfold oU;split
  ·exact h
  ·refine TB hr ?_ fun c hm=>hc c (by simp[hm])
   have h1:=hr (left-c.cq);obtain⟨c1,c2,c3⟩:=hc c (by simp)
   have ok:∀p s f,pb k (some (p,s,f))→pb (k+1) (some (p+c.jc,s+c.jd,c.cq)):=fun p s f q=>by
    simp only[pb]at q ⊢;omega
   unfold c6;split
   ·exact h
   ·rename_i p s f e
    rw[e]at h1;split
    ·exact ok _ _ _ h1
    ·split
     ·exact ok _ _ _ h1
     ·exact h
theorem Bs{α:Type}[Inhabited α]{l:List α}{a:α}(h:a∈l):∃i,i<l.length∧nth l i=a:=by
 obtain⟨i,hi,rfl⟩:=List.getElem_of_mem h;exact⟨i,hi,by simp[nth,hi]⟩
theorem TC:∀{LL:List (List Ch)} {left:Int},(∀l∈LL,∀c∈l,0≤c.cq∧(0≤c.jc∧c.jc≤1073741824)∧0≤c.jd∧c.jd≤1)→pb LL.length (je LL left)
 |[],left,_=>by simp[je,pb]
 |l::ls,left,h=>by
  have:=TB (left:=left) (k:=ls.length) (l:=l) (out:=none) (fun x=>TC (LL:=ls) (left:=x) fun l hl=>h l (by simp[hl])) trivial (h l (by simp))
  simpa [je] using this
theorem Lb.all{LL:List (List Ch)}(h:Lb LL):∀l∈LL,∀c∈l,0≤c.cq∧(0≤c.jc∧c.jc≤1073741824)∧0≤c.jd∧c.jd≤1:=by
 intro l hl c hc;obtain⟨i,hi,rfl⟩:=Bs hl;obtain⟨j,hj,rfl⟩:=Bs hc;exact⟨(h.cq i j hi hj).1,h.jc i j hi hj,h.jd i j hi hj⟩
theorem Lb.pb{LL:List (List Ch)}(h:Lb LL)(i:Nat)(left:Int):pb (LL.length:Int) (je (LL.drop i) left):=by
 have h1:=TC (LL:=LL.drop i) (left:=left) (fun l hl=>h.all l (List.mem_of_mem_drop hl));cases hb:je (LL.drop i) left with
 |none=>trivial
 |some q =>
  obtain⟨p,s,f⟩:=q;rw[hb]at h1;simp only[Go.Proofs.YtmpikpodpgnjhaaGreat.pb]at h1 ⊢;have:(LL.drop i).length≤LL.length:=by simp
  omega
theorem My{LL:List (List Ch)}{i:Nat}(h:i<LL.length)(left:Int):je (LL.drop i) left=oU (je (LL.drop (i+1))) left (nth LL i) none:=by
 rw[sH h];rfl
theorem agZ(a b:Int):V.lO true [0,0] (.agg [i64 a,i64 b]) (.agg [i64 a,i64 b])=some true:=by simp[V.lO,eI,jI]
theorem ag0{LL:List (List Ch)}(hL:Lb LL):∀(k i:Nat) (left:Int) (m:xk),k=LL.length-i→i≤LL.length→0≤left→left≤1073741824→uN LL m →
  ∃m',bo F 218 [i64 i,i64 left,.bN 0 0,.bN 2 0,.bN 3 0] (gl 218 LL m)=some (lG (je (LL.drop i) left),gl 218 LL m')∧uN LL m':=by
 intro k;induction k with
 |zero =>
  intro i left m hk hi h0 h1 hm;obtain rfl:i=LL.length:=by omega
  refine⟨m,cg rfl rfl ?_,hm⟩;rw[List.drop_length,je];simp (disch:=omega) [-getElem?_pos,wrap64,Bk,gl];rfl
 |succ k ih =>
  intro i left m hk hi h0 h1 hm
  suffices h:∀Q:V→List aV→Prop,(∀m',uN LL m'→Q (lG (je (LL.drop i) left)) (gl 218 LL m'))→iP (bo F) 218 [i64 i,i64 left,.bN 0 0,.bN 2 0,.bN 3 0] (gl 218 LL m) Q by
   obtain⟨_,_,h,m',h1,rfl,rfl⟩:=h (fun v G=>∃m',uN LL m'∧v=lG (je (LL.drop i) left)∧G=gl 218 LL m') fun m' a=>⟨m',a,rfl,rfl⟩;exact⟨m',h,h1⟩
  intro Q hQ;refine jl rfl rfl ?_;have bF:i<LL.length:=by omega
  have tR:¬(i:Int)=LL.length:=by omega
  have lx:=agZ i left;have Bp:=hL.jY;rcases Mx (LL:=LL) (i:=i) (left:=left) (m:=m) (k:=0) hm with hf | ⟨j,hf,hj⟩
  ·rw[My bF left]at hQ
   generalize hW:oU (je (LL.drop (i+1))) left (nth LL i) none=W at hQ;have hn:=hL.each i bF;simp (disch:=omega) [-getElem?_pos,wrap64,Bk,gl,tR,lx,hf,bp (l:=LL)];have uF:∀(out:Part) (m:xk),out=W→uN LL m→(lP true [0,0] (.agg [i64 i,i64 left]) (qa m) 0=some none∧∃m',uN LL m'∧qa m++[(.agg [i64 i,i64 left],lG out)]=qa m') ∨
     ∃j v,lP true [0,0] (.agg [i64 i,i64 left]) (qa m) 0=some (some (j,v))∧∃m',uN LL m'∧(qa m).set j (.agg [i64 i,i64 left],lG out)=qa m':=by
    rintro out m rfl hm;rw[←My bF left]at hW;rcases Mx (LL:=LL) (i:=i) (left:=left) (m:=m) (k:=0) hm with h5 | ⟨j,h5,hj⟩
    ·refine .inl ⟨h5,m++[(((i:Int),left),out)],fun e he=>?_,by simp[qa]⟩
     rcases List.mem_append.1 he with h6|h6
     ·exact hm e h6
     ·obtain rfl:=List.mem_singleton.1 h6
      exact⟨i,rfl,hW.symm⟩
    ·refine .inr ⟨_,_,h5,m.set (0+j) (((i:Int),left),out),fun e he=>?_,by simp[qa,List.map_set]⟩
     rcases List.mem_or_eq_of_mem_set he with h6|rfl
     ·exact hm e h6
     ·exact⟨i,rfl,hW.symm⟩
   refine go_loop (fun x:Nat×Part×xk=>adA i left (.bN 2 0) (.bN 3 0) (.slice none 3 ((nth LL i).map Ch.row)) (nth LL i).length x.1 [.bool false,i64 0,i64 0,i64 0] (iR x.2.1) (gl 218 LL x.2.2))
    (fun x=>x.1≤(nth LL i).length∧oU (je (LL.drop (i+1))) left ((nth LL i).drop x.1) x.2.1=W∧uN LL x.2.2) (fun x=>(nth LL i).length-x.1) (0,none,m) rfl (by simp[gl,iR]) ⟨by omega,by simpa using hW,hm⟩ ?_
   rintro⟨j,out,m⟩ ⟨hj,hq,hm⟩;simp only at hj hq hm;simp (disch:=omega) [-getElem?_pos,wrap64,S4,gl];refine b9 (fun h2=>?_) (fun h2=>?_)
   ·have h2:j<(nth LL i).length:=by omega
    have a1:=hL.cq i j bF h2;have a2:=hL.jc i j bF h2;have a3:=hL.jd i j bF h2;rw[sH h2,oU]at hq;have gt:=bp h2;simp (disch:=omega) [-getElem?_pos,wrap64,gt];refine b9 (fun h3=>?_) (fun h3=>?_)
    ·rw[if_pos h3]at hq
     rcases uF out m hq hm with⟨g1,m2,g2,g3⟩ | ⟨j2,v2,g1,m2,g2,g3⟩
     ·have:=hQ m2 g2
      cases nB:W with
      |none =>
       rw[hq]at g3;rw[nB]at this g3;simp only[gl,← g3,lG,iR]at this;simp (disch:=omega) [-getElem?_pos,wrap64,hq,nB,iR,lx,g1];exact this
      |some q =>
       obtain⟨p,s,f⟩:=q;rw[hq]at g3;rw[nB]at this g3;simp only[gl,← g3,lG,iR]at this;simp (disch:=omega) [-getElem?_pos,wrap64,hq,nB,iR,lx,g1];exact this
     ·have:=hQ m2 g2
      cases nB:W with
      |none =>
       rw[hq]at g3;rw[nB]at this g3;simp only[gl,← g3,lG,iR]at this;simp (disch:=omega) [-getElem?_pos,wrap64,hq,nB,iR,lx,g1];exact this
      |some q =>
       obtain⟨p,s,f⟩:=q;rw[hq]at g3;rw[nB]at this g3;simp only[gl,← g3,lG,iR]at this;simp (disch:=omega) [-getElem?_pos,wrap64,hq,nB,iR,lx,g1];exact this
    ·obtain⟨m',hI,sC⟩:=ih (i+1) (left-(nth (nth LL i) j).cq) m (by omega) (by omega) (by omega) (by omega) hm
     have hp:=hL.pb (i+1) (left-(nth (nth LL i) j).cq);rw[if_neg h3]at hq;unfold c6 at hq;simp only[gl]at hI
     push_cast at hI
     cases hb:je (LL.drop (i+1)) (left-(nth (nth LL i) j).cq) with
     |none =>
      rw[hb]at hI hp hq;simp only[lG,iR]at hI;simp only at hq;simp (disch:=omega) [-getElem?_pos,wrap64,hI];exact cc (j+1,out,m') (by simp[gl]) ⟨by omega,hq,sC⟩ (by simp;omega)
     |some q =>
      obtain⟨p,s,f⟩:=q;rw[hb]at hI hp hq;simp only[lG,iR]at hI;simp only at hq;simp only[pb]at hp;have hB:=fun a b=>agV a b [] [] (by simp) []
      simp only[ints,List.map_nil]at hB;cases out with
      |none =>
       simp only at hq;simp (disch:=omega) [-getElem?_pos,wrap64,hI,iR];exact cc (j+1,some (p+(nth (nth LL i) j).jc,s+(nth (nth LL i) j).jd,(nth (nth LL i) j).cq),m') (by simp[gl,iR]) ⟨by omega,hq,sC⟩ (by simp;omega)
      |some o =>
       obtain⟨p',s',f'⟩:=o;simp only at hq;by_cases vW:jz (p+(nth (nth LL i) j).jc,s+(nth (nth LL i) j).jd) (p',s') [] []
       ·rw[if_pos vW]at hq
        have hB:=hB (p+(nth (nth LL i) j).jc,s+(nth (nth LL i) j).jd) (p',s');simp (disch:=omega) [-getElem?_pos,wrap64,hI,iR,hB,vW];exact cc (j+1,some (p+(nth (nth LL i) j).jc,s+(nth (nth LL i) j).jd,(nth (nth LL i) j).cq),m') (by simp[gl,iR]) ⟨by omega,hq,sC⟩ (by simp;omega)
       ·rw[if_neg vW]at hq
        have hB:=hB (p+(nth (nth LL i) j).jc,s+(nth (nth LL i) j).jd) (p',s');simp (disch:=omega) [-getElem?_pos,wrap64,hI,iR,hB,vW];exact cc (j+1,some (p',s',f'),m') (by simp[gl,iR]) ⟨by omega,hq,sC⟩ (by simp;omega)
   ·obtain rfl:j=(nth LL i).length:=by omega
    rw[List.drop_length,oU]at hq;rcases uF out m hq hm with⟨g1,m2,g2,g3⟩ | ⟨j2,v2,g1,m2,g2,g3⟩
    ·have:=hQ m2 g2
     cases nB:W with
     |none =>
      rw[hq]at g3;rw[nB]at this g3;simp only[gl,← g3,lG,iR]at this;simp (disch:=omega) [-getElem?_pos,wrap64,hq,nB,iR,lx,g1];exact this
     |some q =>
      obtain⟨p,s,f⟩:=q;rw[hq]at g3;rw[nB]at this g3;simp only[gl,← g3,lG,iR]at this;simp (disch:=omega) [-getElem?_pos,wrap64,hq,nB,iR,lx,g1];exact this
    ·have:=hQ m2 g2
     cases nB:W with
     |none =>
      rw[hq]at g3;rw[nB]at this g3;simp only[gl,← g3,lG,iR]at this;simp (disch:=omega) [-getElem?_pos,wrap64,hq,nB,iR,lx,g1];exact this
     |some q =>
      obtain⟨p,s,f⟩:=q;rw[hq]at g3;rw[nB]at this g3;simp only[gl,← g3,lG,iR]at this;simp (disch:=omega) [-getElem?_pos,wrap64,hq,nB,iR,lx,g1];exact this
  ·cases hb:je (LL.drop i) left with
   |none =>
    rw[hb]at hf hQ;simp only[lG,iR]at hf;simp (disch:=omega) [-getElem?_pos,wrap64,Bk,gl,tR,lx,hf];exact hQ m hm
   |some q =>
    obtain⟨p,s,f⟩:=q;rw[hb]at hf hQ;simp only[lG,iR]at hf;simp (disch:=omega) [-getElem?_pos,wrap64,Bk,gl,tR,lx,hf];exact hQ m hm
end Go.Proofs.YtmpikpodpgnjhaaGreat
namespace Go.Proofs.YtmpikpodpgnjhaaGreat
set_option linter.all false
open Go.Vm
attribute [local simp] eQ eR eO eP
noncomputable def D4(g:Int)(u:Un)(s:Us):List Ch:=(pt u s g).map fun q=>⟨q,pow u q,il s q⟩
noncomputable def iS(us:List Un)(ss:List Us)(g:Int):List (List Ch):=List.zipWith (D4 g) us ss
theorem ag1(us:List Un)(ss:List Us)(g:Int):List.zipWith (D2 g) us ss=(iS us ss g).map Mw:=by
 rw[iS,List.map_zipWith];congr 1;funext u s;simp[D4,D2,Mw]
theorem Mz{u:Un}{g:Int}(h:gu u g=0):(fg u g).length≤200:=by
 unfold gu at h;split at h
 ·contradiction
 ·split at h
  ·cases h
  ·split at h
   ·cases h
   ·omega
theorem ag2{u:Un}{s:Us}{g:Int}(h:gu u g=0):(pt u s g).length≤202:=by
 have h1:=Mz h;have h2:=AZ (mF (fg u g++[0,s.cq]));have h3:=(xd (fg u g++[0,s.cq])).length_eq;have h4:(pt u s g).length≤(dedup (mF (fg u g++[0,s.cq]))).length:=List.length_filter_le _ _;simp at h3;omega
structure Hc(us:List Un)(ss:List Us)(g:Int):Prop where
 jY:us.length≤6
 len:us.length=ss.length
 valid:y5 us ss
 aoe:1≤g∧g≤1073741824
 TD:y6 us g
theorem MA{us:List Un}{ss:List Us}{g release:Int}(h:px us ss g release=0):Hc us ss g∧(0≤release∧release≤1073741824)∧release≤200*g:=by
 unfold px at h;split at h
 ·cases h
 ·split at h
  ·cases h
  ·split at h
   ·cases h
   ·split at h
    ·cases h
    ·split at h
     ·cases h
     ·split at h
      ·cases h
      ·rename_i h1 h2 h3 h4 h5 h6
       exact⟨⟨by omega,Decidable.of_not_not h2,Decidable.of_not_not h3,by omega,Decidable.of_not_not h6⟩,by omega,by omega⟩
theorem MB{us:List Un}{ss:List Us}{g:Int}(h:us.length=ss.length):(iS us ss g).length=us.length:=by simp[iS,h]
theorem uO{α β:Type}[Inhabited α][Inhabited β]{f:α→β}{l:List α}{i:Nat}(h:i<l.length):nth (l.map f) i=f (nth l i):=by
 simp[nth,h]
theorem Bt{α β γ:Type}[Inhabited α][Inhabited β][Inhabited γ]{f:α→β→γ}{a:List α}{b:List β}{i:Nat}(h1:i<a.length)(h2:i<b.length):nth (List.zipWith f a b) i=f (nth a i) (nth b i):=by
 simp[nth,List.getElem?_zipWith,h1,h2]
theorem qc{α:Type}[Inhabited α]{l:List α}{i:Nat}(h:i<l.length):nth l i∈l:=List.mem_of_getElem? (bp h)
theorem TE{us:List Un}{ss:List Us}{g:Int}(h:Hc us ss g):Lb (iS us ss g):=by
 have hl:=h.len;have e:∀i,i<(iS us ss g).length→nth (iS us ss g) i=D4 g (nth us i) (nth ss i):=fun i hi=>by
  rw[MB hl]at hi;exact Bt hi (by omega)
 have c:∀i j,i<(iS us ss g).length→j<(nth (iS us ss g) i).length→∃q,jm (nth us i) (nth ss i) q∧nth (nth (iS us ss g) i) j=⟨q,pow (nth us i) q,il (nth ss i) q⟩:=fun i j hi hj=>by
  rw[e i hi]at hj ⊢;have sd:j<(pt (nth us i) (nth ss i) g).length:=by simpa [D4] using hj
  refine⟨nth (pt (nth us i) (nth ss i) g) j,?_,uO sd⟩;have:=qc sd;simp only[pt,List.mem_filter,decide_eq_true_eq]at this;exact this.2
 refine⟨by rw[MB hl];exact h.jY,fun i hi=>?_,fun i j hi hj=>?_,fun i j hi hj=>?_,fun i j hi hj=>?_⟩
 ·rw[e i hi]
  rw[MB hl]at hi;have:=ag2 (s:=nth ss i) (h.TD i hi);simp[D4];omega
 ·obtain⟨q,h1,h2⟩:=c i j hi hj
  rw[h2];exact G8 h1
 ·obtain⟨q,h1,h2⟩:=c i j hi hj
  rw[h2];exact G9
 ·obtain⟨q,h1,h2⟩:=c i j hi hj
  rw[h2];exact Mu
noncomputable def jR(us:List Un)(ss:List Us)(g release:Int):Int:=if px us ss g release≠0 then px us ss g release else if l7 (iS us ss g) release=none then 9 else 0
noncomputable def gX(us:List Un)(ss:List Us)(g release:Int):List Int:=if px us ss g release≠0 then [] else (l7 (iS us ss g) release).getD []
theorem TF{LL:List (List Ch)}:∀{l:List Ch} {rest:Int→Part} {left:Int} {out:Part} {p s f:Int},(∀q t e,out=some (q,t,e)→e≤left)→oU rest left l out=some (p,s,f)→f≤left
 |[],rest,left,out,p,s,f,h,he=>h _ _ _ (by simpa [oU] using he)
 |c::cs,rest,left,out,p,s,f,h,he=>by
  unfold oU at he;split at he
  ·exact h _ _ _ he
  ·refine TF (LL:=LL) (fun q t e hq=>?_) he
   unfold c6 at hq;split at hq
   ·exact h _ _ _ hq
   ·split at hq
    ·cases hq;omega
    ·split at hq
     ·cases hq;omega
     ·cases hq;exact h _ _ _ rfl
theorem ag3(us:List Un)(ss:List Us)(g release:Int):∃G',bo F 206 [jQ us,jy ss,i64 g,i64 release] []=some (.tuple [own (gX us ss g release),i64 (jR us ss g release)],G'):=by
 suffices h:∀Q:V→List aV→Prop,(∀G,Q (.tuple [own (gX us ss g release),i64 (jR us ss g release)]) G)→iP (bo F) 206 [jQ us,jy ss,i64 g,i64 release] [] Q by
  obtain⟨_,_,h,rfl⟩:=h (fun v _=>v=.tuple [own (gX us ss g release),i64 (jR us ss g release)]) fun _=>rfl;exact⟨_,h⟩
 intro Q hQ;refine jl rfl rfl ?_;have hS:=agY us ss g release [];by_cases h0:px us ss g release=0
 ·rw[h0,if_pos rfl,ag1]at hS
  obtain⟨h1,h2,h3⟩:=MA h0;have hL:=TE h1;have eL:gX us ss g release=(l7 (iS us ss g) release).getD []:=by simp[gX,h0]
  have eE:jR us ss g release=if l7 (iS us ss g) release=none then 9 else 0:=by simp[jR,h0]
  rw[eL,eE]at hQ;have Bp:=hL.jY;generalize hLL:iS us ss g=LL at *;simp (disch:=omega) [wrap64,GK,hS];refine go_loop (fun x:List Int×Int×xk=>adn (.bN 0 0) (.bN 3 0) (.slice (some 1048) 1 (x.1.map fun n=>[i64 n])) x.2.1 x.1.length (gl 218 LL x.2.2))
   (fun x=>x.1.length≤LL.length∧(0≤x.2.1∧x.2.1≤1073741824)∧(l7 (LL.drop x.1.length) x.2.1).map (x.1 ++ ·)=l7 LL release∧uN LL x.2.2) (fun x=>LL.length-x.1.length) ([],release,[]) rfl (by simp[gl,qa]) ⟨by simp,by simpa using h2,by simp,fun e he=>by simp at he⟩ ?_
  rintro⟨fs,left,m⟩ ⟨i1,i2,i3,i4⟩;simp only at i1 i2 i3 i4;simp (disch:=omega) [wrap64,SV,gl];refine b9 (fun h4=>?_) (fun h4=>?_)
  ·have h4:fs.length<LL.length:=by omega
   obtain⟨m',hI,sC⟩:=ag0 hL (LL.length-fs.length) fs.length left m rfl i1 i2.1 i2.2 i4;have hp:=hL.pb fs.length left;have hd:LL.drop fs.length=nth LL fs.length::LL.drop (fs.length+1):=sH h4;rw[hd,l7,← hd]at i3;cases hb:je (LL.drop fs.length) left with
   |none =>
    rw[hb]at hI i3;simp only[lG,iR,gl]at hI;simp only[Option.map_none]at i3;rw[←i3]at hQ;simp only[if_true,Option.getD_none]at hQ;simp (disch:=omega) [wrap64,hI];exact hQ _
   |some q =>
    obtain⟨p,s,f⟩:=q;rw[hb]at hI i3 hp;have hf:f≤left:=by
     rw[My h4]at hb;exact TF (LL:=LL) (fun q t e hq=>by cases hq) hb
    simp only[lG,iR,gl]at hI;simp only[pb]at hp;simp only at i3;simp (disch:=omega) [wrap64,hI];refine cc (fs++[f],left-f,m') (by simp[gl]) ⟨by simp;omega,by simp;omega,?_,sC⟩ (by simp;omega)
    rw[←i3];simp[Function.comp_def]
  ·have e:fs.length=LL.length:=by omega
   rw[e,List.drop_length,l7]at i3;simp only[Option.map_some,List.append_nil]at i3;rw[←i3]at hQ;simpa using hQ _
 ·rw[if_neg h0]at hS
  have eL:gX us ss g release=[]:=by simp[gX,h0]
  have eE:jR us ss g release=px us ss g release:=by simp[jR,h0]
  rw[eL,eE]at hQ;simp (disch:=omega) [wrap64,GK,hS,h0];exact hQ _
end Go.Proofs.YtmpikpodpgnjhaaGreat
namespace Go.Proofs.YtmpikpodpgnjhaaGreat
set_option linter.all false
open Go.Vm
def tS(a b:Int×Int):Prop:=b.1<a.1∨(a.1=b.1∧a.2<b.2)
theorem vX{a b:Int×Int}{p q:List Int}:jz a b p q↔tS a b∨(a.1=b.1∧a.2=b.2∧gf p q<0):=by
 unfold jz tS;split
 ·omega
 ·split<;>omega
theorem ag5{a:Int}{p q:List Int}:gf (a::p) (a::q)=gf p q:=by simp[gf]
theorem ag6{a b:Int}{p q:List Int}(h:b<a):¬gf (a::p) (b::q)<0:=by
 simp only[gf];rw[if_neg (by omega),if_pos h]
 omega
def sI:List (List Ch)→List Ch→Prop
 |[],[]=>True
 |l::ls,c::P=>c∈l∧sI ls P
 |_,_=>False
def sF(P:List Ch):Int:=(P.map Ch.cq).sum
def sP(P:List Ch):Int:=(P.map Ch.jc).sum
def sS(P:List Ch):Int:=(P.map Ch.jd).sum
theorem ag7{LL:List (List Ch)}:∀{P:List Ch},(∀l∈LL,∀c∈l,0≤c.cq)→sI LL P→0≤sF P:=by
 induction LL with
 |nil=>intro P _ hp;cases P with
  |nil=>simp[sF]
  |cons c P=>exact hp.elim
 |cons l ls ih =>
  intro P h hp;cases P with
  |nil=>exact hp.elim
  |cons c P =>
   have h1:=ih (fun l hl=>h l (by simp[hl])) hp.2
   have h2:=h l (by simp) c hp.1
   simp only[sF,List.map_cons,List.sum_cons]at h1 ⊢;omega
structure Top(LL:List (List Ch))(left:Int)(P:List Ch):Prop where
 y7:sI LL P
 sum:sF P≤left
 best:∀Q,sI LL Q→sF Q≤left→¬jz (sP Q,sS Q) (sP P,sS P) (Q.map Ch.cq) (P.map Ch.cq)
structure Jn(ls:List (List Ch))(left:Int)(pre:List Ch)(p s f:Int)(c:Ch)(P:List Ch):Prop where
 mem:c∈pre
 cq:c.cq=f
 y7:sI ls P
 sum:c.cq+sF P≤left
 jc:c.jc+sP P=p
 jd:c.jd+sS P=s
 rest:l7 ls (left-f)=some (P.map Ch.cq)
 best:∀d∈pre,∀Q,sI ls Q→d.cq+sF Q≤left→¬jz (d.jc+sP Q,d.jd+sS Q) (p,s) (d.cq::Q.map Ch.cq) (c.cq::P.map Ch.cq)
def J(ls:List (List Ch))(left:Int)(pre:List Ch):Part→Prop
 |none=>∀c∈pre,∀Q,sI ls Q→left<c.cq+sF Q
 |some (p,s,f)=>∃c P,Jn ls left pre p s f c P
theorem TG{ls:List (List Ch)}{left:Int}{pre:List Ch}{out:Part}{l:List Ch}(h:J ls left pre out)(hn:∀c∈l,∀Q,sI ls Q→left<c.cq+sF Q):J ls left (pre++l) out:=by
 cases out with
 |none =>
  intro c hc Q hQ;rcases List.mem_append.1 hc with h1|h1
  ·exact h c h1 Q hQ
  ·exact hn c h1 Q hQ
 |some q =>
  obtain⟨p,s,f⟩:=q;obtain⟨c,P,j⟩:=h;refine⟨c,P,⟨by simp[j.mem],j.cq,j.y7,j.sum,j.jc,j.jd,j.rest,fun d hd Q hQ hs=>?_⟩⟩
  rcases List.mem_append.1 hd with h1|h1
  ·exact j.best d h1 Q hQ hs
  ·have:=hn d h1 Q hQ
   omega
def Good(ls:List (List Ch)):Prop:=∀left,0≤left→match je ls left with
 |none=>∀Q,sI ls Q→left<sF Q
 |some (p,s,_)=>∃P,Top ls left P∧sP P=p∧sS P=s∧l7 ls left=some (P.map Ch.cq)
theorem aha{ls:List (List Ch)}(hg:Good ls){left:Int}{pre:List Ch}{out:Part}{c:Ch}(h:J ls left pre out)(Hd:∀d∈pre,d.cq<c.cq)(hle:c.cq≤left):J ls left (pre++[c]) (c6 (je ls) left c out):=by
 have hg:=hg (left-c.cq) (by omega)
 unfold c6;cases hb:je ls (left-c.cq) with
 |none =>
  rw[hb]at hg;exact TG h fun d hd Q hQ=>by
   obtain rfl:=List.mem_singleton.1 hd;have:=hg Q hQ;omega
 |some q =>
  obtain⟨p0,s0,f0⟩:=q;rw[hb]at hg;obtain⟨P0,t,rfl,rfl,e0⟩:=hg;have new:∀d∈[c],∀Q,sI ls Q→d.cq+sF Q≤left→¬jz (d.jc+sP Q,d.jd+sS Q) (sP P0+c.jc,sS P0+c.jd) (d.cq::Q.map Ch.cq) (c.cq::P0.map Ch.cq):=by
   intro d hd Q hQ hs tU;obtain rfl:=List.mem_singleton.1 hd;refine t.best Q hQ (by omega) ?_
   rw[vX]at tU ⊢;rw[ag5]at tU;unfold tS at tU ⊢;simp only at tU ⊢;omega
  have ts:=t.sum;cases out with
  |none =>
   simp only;refine⟨c,P0,⟨by simp,rfl,t.y7,by omega,by omega,by omega,e0,fun d hd Q hQ hs=>?_⟩⟩
   rcases List.mem_append.1 hd with h1|h1
   ·have:=h d h1 Q hQ;omega
   ·exact new d h1 Q hQ hs
  |some o =>
   obtain⟨p,s,f⟩:=o;obtain⟨c1,P1,j⟩:=h;simp only;split
   ·rename_i tU
    rw[vX]at tU;have hv:tS (sP P0+c.jc,sS P0+c.jd) (p,s):=by
     rcases tU with h|h
     ·exact h
     ·simp[gf]at h
    unfold tS at hv;simp only at hv;refine⟨c,P0,⟨by simp,rfl,t.y7,by omega,by omega,by omega,e0,fun d hd Q hQ hs=>?_⟩⟩
    rcases List.mem_append.1 hd with h1|h1
    ·have:=j.best d h1 Q hQ hs
     rw[vX]at this ⊢;unfold tS at this ⊢;simp only at this ⊢;omega
    ·exact new d h1 Q hQ hs
   ·rename_i tU
    rw[vX]at tU;unfold tS at tU;simp only at tU;refine⟨c1,P1,⟨by simp[j.mem],j.cq,j.y7,j.sum,j.jc,j.jd,j.rest,fun d hd Q hQ hs=>?_⟩⟩
    rcases List.mem_append.1 hd with h1|h1
    ·exact j.best d h1 Q hQ hs
    ·have h2:=new d h1 Q hQ hs
     obtain rfl:=List.mem_singleton.1 h1;have h3:=ag6 (p:=Q.map Ch.cq) (q:=P1.map Ch.cq) (Hd c1 j.mem);rw[vX]at h2 ⊢;unfold tS at h2 ⊢;simp only at h2 ⊢;omega
theorem TH{ls:List (List Ch)}(hg:Good ls)(h0:∀l∈ls,∀c∈l,0≤c.cq){left:Int}:∀{cs pre:List Ch} {out:Part},(pre++cs).Pairwise (fun a b=>a.cq<b.cq)→J ls left pre out→J ls left (pre++cs) (oU (je ls) left cs out)
 |[],pre,out,_,h=>by simpa [oU] using h
 |c::cs,pre,out,hp,h=>by
  have vg:=List.pairwise_append.1 hp;unfold oU;split
  ·rename_i bF
   refine TG h fun d hd Q hQ=>?_;have:=ag7 h0 hQ;rcases List.mem_cons.1 hd with rfl|h1
   ·omega
   ·have:=(List.pairwise_cons.1 vg.2.1).1 d h1
    omega
  ·have h1:=aha hg h (c:=c) (fun d hd=>vg.2.2 d hd c (by simp)) (by omega)
   have h2:=TH hg h0 (cs:=cs) (pre:=pre++[c]) (by simpa using hp) h1
   simpa using h2
def TI(LL:List (List Ch)):Prop:=∀l∈LL,l.Pairwise fun a b=>a.cq<b.cq
theorem TJ:∀{LL:List (List Ch)},(∀l∈LL,∀c∈l,0≤c.cq)→TI LL→Good LL
 |[],_,_=>fun left h0=>by
  simp only[je];refine⟨[],⟨trivial,by simpa [sF] using h0,fun Q hQ _=>?_⟩,rfl,rfl,rfl⟩
  cases Q with
  |nil=>simp[jz,gf]
  |cons c Q=>exact hQ.elim
 |l::ls,h0,ha=>fun left qw=>by
  have hg:Good ls:=TJ (fun l hl=>h0 l (by simp[hl])) (fun l hl=>ha l (by simp[hl]))
  have hj:=TH hg (fun l hl=>h0 l (by simp[hl])) (left:=left) (cs:=l) (pre:=[]) (out:=none) (by simpa using ha l (by simp)) (fun c hc=>by simp at hc)
  simp only[List.nil_append]at hj;have e:je (l::ls) left=oU (je ls) left l none:=rfl;rw[e];cases hb:oU (je ls) left l none with
  |none =>
   rw[hb]at hj;intro Q hQ;cases Q with
   |nil=>exact hQ.elim
   |cons c Q =>
    have:=hj c hQ.1 Q hQ.2;simpa [sF] using this
  |some q =>
   obtain⟨p,s,f⟩:=q;rw[hb]at hj;obtain⟨c,P,j⟩:=hj;have j4:=j.sum;have j5:=j.jc;have j6:=j.jd;refine⟨c::P,⟨⟨j.mem,j.y7⟩,by simpa [sF] using j4,fun Q hQ hs=>?_⟩,by simpa [sP] using j5,by simpa [sS] using j6,?_⟩
   ·cases Q with
    |nil=>exact hQ.elim
    |cons d Q =>
     have:=j.best d hQ.1 Q hQ.2 (by simpa [sF] using hs)
     have e1:sP (c::P)=p:=by simpa [sP] using j5
     have e2:sS (c::P)=s:=by simpa [sS] using j6
     rw[e1,e2];simpa [sP,sS] using this
   ·rw[l7,e,hb]
    simp only;rw[j.rest];simp[j.cq]
end Go.Proofs.YtmpikpodpgnjhaaGreat
namespace Go.Proofs.YtmpikpodpgnjhaaGreat
set_option linter.all false
open Go.Vm
theorem MC{x:Int}:∀{l:List Int},x∈dedup l↔x∈l
 |[]=>Iff.rfl
 |[a]=>Iff.rfl
 |a::b::r=>by
  have ih:=MC (x:=x) (l:=b::r);unfold dedup;by_cases h:a=b
  ·simp only[h,beq_self_eq_true,cond_true,ih]
   simp
  ·have h':(a==b)=false:=by simpa using h
   simp only[h',cond_false,List.mem_cons,ih]
theorem TM:∀{l:List Int},l.Pairwise (· ≤ ·)→(dedup l).Pairwise (· < ·)
 |[],_=>.nil
 |[a],_=>by simp[dedup]
 |a::b::r,h=>by
  obtain⟨h1,h2⟩:=List.pairwise_cons.1 h;have ih:=TM h2;unfold dedup;by_cases p9:a=b
  ·simp only[p9,beq_self_eq_true,cond_true]
   exact ih
  ·have h':(a==b)=false:=by simpa using p9
   simp only[h',cond_false,List.pairwise_cons];refine⟨fun x hx=>?_,ih⟩;rw[MC]at hx;have h3:=h1 b (by simp)
   rcases List.mem_cons.1 hx with rfl|h4
   ·omega
   ·have:=(List.pairwise_cons.1 h2).1 x h4
    omega
theorem Bu{u:Un}{s:Us}{g q:Int}:q∈pt u s g↔(q∈fg u g∨q=0∨q=s.cq)∧jm u s q:=by
 simp only[pt,List.mem_filter,MC,(xd _).mem_iff,decide_eq_true_eq,List.mem_append,List.mem_cons,List.not_mem_nil,or_false]
theorem ahc{u:Un}{s:Us}{g:Int}:(pt u s g).Pairwise (· < ·):=(TM (Kr _)).filter _
def lH(g:Int):List Un→List Us→List Int→Prop
 |u::us,s::ss,q::F=>q∈pt u s g∧lH g us ss F
 |[],[],[]=>True
 |_,_,_=>False
noncomputable def ix:List Un→List Int→Int
 |u::us,q::F=>pow u q+ix us F
 |_,_=>0
def iy:List Us→List Int→Int
 |s::ss,q::F=>il s q+iy ss F
 |_,_=>0
noncomputable def sJ:List Un→List Us→List Int→List Ch
 |u::us,s::ss,q::F=>⟨q,pow u q,il s q⟩::sJ us ss F
 |_,_,_=>[]
theorem y8{g:Int}:∀{us:List Un} {ss:List Us} {F:List Int},lH g us ss F→F.length=us.length∧F.length=ss.length
 |[],[],[],_=>⟨rfl,rfl⟩
 |_::_,_::_,_::_,h=>by have:=y8 h.2;simp;omega
 |[],_::_,_,h=>h.elim
 |[],[],_::_,h=>h.elim
 |_::_,[],_,h=>h.elim
 |_::_,_::_,[],h=>h.elim
theorem He{g:Int}:∀{us:List Un} {ss:List Us} {F:List Int},lH g us ss F→sI (iS us ss g) (sJ us ss F)∧(sJ us ss F).map Ch.cq=F∧sF (sJ us ss F)=F.sum∧sP (sJ us ss F)=ix us F∧sS (sJ us ss F)=iy ss F
 |[],[],[],_=>⟨trivial,rfl,rfl,rfl,rfl⟩
 |u::us,s::ss,q::F,h=>by
  obtain⟨h1,h2,h3,h4,h5⟩:=He h.2;refine⟨⟨List.mem_map.2 ⟨q,h.1,rfl⟩,h1⟩,by simp[sJ,h2],?_,?_,?_⟩
  ·simp only[sF]at h3 ⊢;simp[sJ,h3]
  ·simp only[sP]at h4 ⊢;simp[sJ,ix,h4]
  ·simp only[sS]at h5 ⊢;simp[sJ,iy,h5]
 |[],_::_,_,h=>h.elim
 |[],[],_::_,h=>h.elim
 |_::_,[],_,h=>h.elim
 |_::_,_::_,[],h=>h.elim
theorem TN{g:Int}:∀{us:List Un} {ss:List Us} {P:List Ch},us.length=ss.length→sI (iS us ss g) P→lH g us ss (P.map Ch.cq)∧P=sJ us ss (P.map Ch.cq)
 |[],[],[],_,_=>⟨trivial,rfl⟩
 |[],[],_::_,_,h=>h.elim
 |[],_::_,_,h,_=>by simp at h
 |_::_,[],_,h,_=>by simp at h
 |_::_,_::_,[],_,h=>h.elim
 |u::us,s::ss,c::P,hl,h=>by
  obtain⟨h1,h2⟩:=TN (by simpa using hl) h.2
  obtain⟨q,hq,rfl⟩:=List.mem_map.1 h.1;exact⟨⟨hq,h1⟩,by simp[sJ];exact h2⟩
structure y9(g:Int)(us:List Un)(ss:List Us)(left:Int)(F:List Int):Prop where
 lH:lH g us ss F
 sum:F.sum≤left
 best:∀E,Go.Proofs.YtmpikpodpgnjhaaGreat.lH g us ss E→E.sum≤left→¬jz (ix us E,iy ss E) (ix us F,iy ss F) E F
theorem TO{g:Int}:∀{us:List Un} {ss:List Us},TI (iS us ss g)
 |[],_=>fun l hl=>by simp[iS]at hl
 |_::_,[]=>fun l hl=>by simp[iS]at hl
 |u::us,s::ss=>fun l hl=>by
  rcases List.mem_cons.1 hl with rfl|h
  ·exact List.pairwise_map.2 ahc
  ·exact TO (us:=us) (ss:=ss) l h
theorem TP{us:List Un}{ss:List Us}{g left:Int}(hs:Hc us ss g)(h0:0≤left) :
  match l7 (iS us ss g) left with
  |none=>∀F,lH g us ss F→left<F.sum
  |some F=>y9 g us ss left F:=by
 have hL:=TE hs;have hn:∀l∈iS us ss g,∀c∈l,0≤c.cq:=fun l hl c hc=>(hL.all l hl c hc).1;have hg:=TJ hn TO;have yh:=hg left h0;cases hb:je (iS us ss g) left with
 |none =>
  rw[hb]at yh;have e:l7 (iS us ss g) left=none:=by
   cases hl:iS us ss g with
   |nil=>rw[hl]at hb;simp[je]at hb
   |cons l ls=>rw[l7,← hl,hb]
  rw[e];intro F hF;obtain⟨h1,_,h3,_⟩:=He hF;have:=yh _ h1;omega
 |some q =>
  obtain⟨p,s,f⟩:=q;rw[hb]at yh;obtain⟨P,t,_,_,e⟩:=yh;rw[e];obtain⟨h1,h2⟩:=TN hs.len t.y7;obtain⟨_,_,h3,h4,h5⟩:=He h1;rw[←h2]at h3 h4 h5;refine⟨h1,by have:=t.sum;omega,fun E hE hs=>?_⟩
  obtain⟨e1,e2,e3,e4,e5⟩:=He hE;have:=t.best _ e1 (by omega)
  rwa [e2,e4,e5,h4,h5]at this
theorem TQ:∀{p q:List Int},p.length=q.length→(gf p q<0∨gf q p<0∨p=q)
 |[],[],_=>.inr (.inr rfl)
 |[],_::_,h=>by simp at h
 |_::_,[],h=>by simp at h
 |a::p,b::q,h=>by
  have ih:=TQ (p:=p) (q:=q) (by simpa using h)
  simp only[gf];rcases Int.lt_trichotomy a b with h1|h1|h1
  ·left;simp[h1]
  ·subst h1
   simp only[Int.lt_irrefl,if_false];rcases ih with h2|h2|h2
   ·exact .inl h2
   ·exact .inr (.inl h2)
   ·exact .inr (.inr (by rw[h2]))
  ·right;left;simp[h1]
theorem ahd{a b:Int×Int}{p q:List Int}(h:p.length=q.length):jz a b p q∨jz b a q p∨(a=b∧p=q):=by
 rw[vX,vX];unfold tS;obtain⟨a1,a2⟩:=a;obtain⟨b1,b2⟩:=b;rcases TQ h with h1|h1|h1
 ·simp only[Prod.mk.injEq];omega
 ·simp only[Prod.mk.injEq];omega
 ·simp only[Prod.mk.injEq,h1,and_true];omega
theorem y9.unique{g:Int}{us:List Un}{ss:List Us}{left:Int}{F E:List Int}(h:y9 g us ss left F)(h':y9 g us ss left E):F=E:=by
 have l1:=y8 h.lH;have l2:=y8 h'.lH;rcases ahd (a:=(ix us F,iy ss F)) (b:=(ix us E,iy ss E)) (p:=F) (q:=E) (by omega) with h1|h1|h1
 ·exact absurd h1 (h'.best F h.lH h.sum)
 ·exact absurd h1 (h.best E h'.lH h'.sum)
 ·exact h1.2
theorem TR{g:Int}:∀{us:List Un} {ss:List Us} {F:List Int} {a b c:Int},lH g us ss F→vU us ss F (a,b,c)=some (a+F.sum,b+ix us F,c+iy ss F)
 |[],[],[],a,b,c,_=>by simp[vU,ix,iy]
 |u::us,s::ss,q::F,a,b,c,h=>by
  rw[vU,if_pos (Bu.1 h.1).2,TR h.2];simp only[List.sum_cons,ix,iy,Option.some.injEq,Prod.mk.injEq];omega
 |[],_::_,_,_,_,_,h=>h.elim
 |[],[],_::_,_,_,_,h=>h.elim
 |_::_,[],_,_,_,_,h=>h.elim
 |_::_,_::_,[],_,_,_,h=>h.elim
theorem TS{g:Int}{us:List Un}{ss:List Us}{F:List Int}(h:lH g us ss F):y4 us ss F=some (F.sum,ix us F,iy ss F):=by
 have l:=y8 h;rw[y4,if_pos (by omega),TR h]
 simp
end Go.Proofs.YtmpikpodpgnjhaaGreat
