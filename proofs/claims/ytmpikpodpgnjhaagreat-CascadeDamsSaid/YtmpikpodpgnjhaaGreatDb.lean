/- Parts of the proof, joined: Dsp1, Dsp2, Dsp3, Dsp4, Dsp5, Dsp6, Dsp7, Dsp8. -/
import Derived.Test.YtmpikpodpgnjhaaGreatDa
namespace Go.Proofs.YtmpikpodpgnjhaaGreat
set_option linter.all false
open Go.Vm
attribute [local simp] eS eT eQ eR
theorem sK{α:Type}[Inhabited α]{l:List α}{i:Nat}(h:i<l.length):l.drop i=nth l i::l.drop (i+1):=by
 rw[List.drop_eq_getElem_cons h];simp[nth,List.getD,h]
def gw:List Int→List Int→Int
 |[],[]=>0
 |[],_::_ => -1
 |_::_,[]=>1
 |a::p,b::q=>if a<b then -1 else if b<a then 1 else gw p q
theorem Mu(a:Int)(G:List aV):bo F 235 [i64 a] G=some (.bool false,G) :=
 cg rfl rfl (by simp[wrap64,L6])
theorem Mv(a b:Int)(G:List aV):bo F 232 [i64 a,i64 b] G=some (i64 (if a<b then -1 else if b<a then 1 else 0),G) :=
 cg rfl rfl (by
  by_cases h1:a<b
  ·simp[wrap64,DT,Mu,h1]
  ·by_cases h2:b<a
   ·simp[wrap64,DT,Mu,h1,h2]
   ·simp[wrap64,DT,Mu,h1,h2])
theorem agX(p q:List Int)(hp:p.length≤4294967296)(G:List aV):bo F 226 [ints p,ints q] G=some (i64 (gw p q),G) :=
 cg rfl rfl (by
  generalize hW:gw p q=W;simp (disch:=omega) [-getElem?_pos,wrap64,L5];refine go_loop (fun i:Nat=>adS (ints p) (ints q) (ints p) p.length i G) (fun i=>i≤p.length∧i≤q.length∧gw (p.drop i) (q.drop i)=W) (fun i=>p.length-i) 0 rfl (by simp) ⟨by omega,by omega,by simpa using hW⟩ ?_
  rintro i ⟨h1,h2,h3⟩;simp (disch:=omega) [-getElem?_pos,wrap64,Tg];refine b9 (fun h4=>?_) (fun h4=>?_)
  ·have h4:i<p.length:=by omega
   rw[sK h4]at h3;by_cases h5:i<q.length
   ·rw[sK h5,gw]at h3
    have h6:¬q.length≤i:=by omega
    by_cases h7:nth p i<nth q i
    ·rw[if_pos h7]at h3
     simp (disch:=omega) [-getElem?_pos,wrap64,eB,Mv,h6,h7];exact h3
    ·rw[if_neg h7]at h3
     by_cases h8:nth q i<nth p i
     ·rw[if_pos h8]at h3
      simp (disch:=omega) [-getElem?_pos,wrap64,eB,Mv,h6,h7,h8];exact h3
     ·rw[if_neg h8]at h3
      simp (disch:=omega) [-getElem?_pos,wrap64,eB,Mv,h6,h7,h8];exact cc (i+1) (by simp) ⟨by omega,by omega,h3⟩ (by omega)
   ·obtain rfl:i=q.length:=by omega
    rw[List.drop_length,gw]at h3;simp (disch:=omega) [-getElem?_pos,wrap64,eB];exact h3
  ·obtain rfl:i=p.length:=by omega
   rw[List.drop_length]at h3;refine b9 (fun h5=>?_) (fun h5=>?_)
   ·have h6:p.length<q.length:=by omega
    rw[sK h6,gw]at h3;exact h3
   ·obtain h6:q.drop p.length=[]:=List.drop_eq_nil_iff.2 (by omega)
    rw[h6,gw]at h3;exact h3)
abbrev G9(a:Int×Int):V:=.agg [i64 a.1,i64 a.2]
def jI(a b:Int×Int)(p q:List Int):Prop:=if a.1≠b.1 then b.1<a.1 else if a.2≠b.2 then a.2<b.2 else gw p q<0
instance {a b:Int×Int} {p q:List Int}:Decidable (jI a b p q):=by unfold jI;infer_instance
theorem agY(a b:Int×Int)(p q:List Int)(hp:p.length≤4294967296)(G:List aV):bo F 219 [G9 a,G9 b,ints p,ints q] G=some (.bool (decide (jI a b p q)),G) :=
 cg rfl rfl (by
  generalize hW:decide (jI a b p q)=W;simp only[jI]at hW;obtain⟨a1,a2⟩:=a;obtain⟨b1,b2⟩:=b;simp only at hW;by_cases h1:a1=b1
  ·by_cases h2:a2=b2
   ·simp[wrap64,DR,agX p q hp,h1,h2]
    simpa [h1,h2] using hW
   ·simp[wrap64,DR,h1,h2]
    simpa [h1,h2] using hW
  ·simp[wrap64,DR,h1]
   simpa [h1] using hW)
theorem agZ(p q:List Int)(hp:p.length≤4294967296)(G:List aV):bo F 188 [ints p,ints q] G=some (.bool (decide (gw p q<0)),G) :=
 cg rfl rfl (by
  generalize hW:gw p q=W;simp (disch:=omega) [-getElem?_pos,wrap64,LI];refine go_loop (fun i:Nat=>ac1 (ints p) (ints q) p.length i G) (fun i=>i≤p.length∧i≤q.length∧gw (p.drop i) (q.drop i)=W) (fun i=>p.length-i) 0 rfl (by simp) ⟨by omega,by omega,by simpa using hW⟩ ?_
  rintro i ⟨h1,h2,h3⟩;simp (disch:=omega) [-getElem?_pos,wrap64,SO];refine b9 (fun h4=>?_) (fun h4=>?_)
  ·have h4:i<p.length:=by omega
   rw[sK h4]at h3;by_cases h5:i<q.length
   ·rw[sK h5,gw]at h3
    have h6:¬q.length≤i:=by omega
    by_cases h7:nth p i<nth q i
    ·rw[if_pos h7]at h3
     have h9:¬nth p i=nth q i:=by omega
     subst h3;simp (disch:=omega) [-getElem?_pos,wrap64,eB,h6,h7,h9,h5]
    ·rw[if_neg h7]at h3
     by_cases h8:nth q i<nth p i
     ·rw[if_pos h8]at h3
      have h9:¬nth p i=nth q i:=by omega
      subst h3;simp (disch:=omega) [-getElem?_pos,wrap64,eB,h6,h7,h9,h5]
     ·rw[if_neg h8]at h3
      have h9:nth p i=nth q i:=by omega
      simp (disch:=omega) [-getElem?_pos,wrap64,eB,h6,h9,h5];exact cc (i+1) (by simp) ⟨by omega,by omega,h3⟩ (by omega)
   ·obtain rfl:i=q.length:=by omega
    rw[List.drop_length,gw]at h3;subst h3;simp (disch:=omega) [-getElem?_pos,wrap64,eB]
  ·obtain rfl:i=p.length:=by omega
   rw[List.drop_length]at h3;by_cases h6:p.length<q.length
   ·rw[sK h6,gw]at h3
    subst h3;simp[h6]
   ·have h7:q.drop p.length=[]:=List.drop_eq_nil_iff.2 (by omega)
    rw[h7,gw]at h3;subst h3;simp;omega)
theorem TB(a b:Int×Int)(p q:List Int)(hp:p.length≤4294967296)(G:List aV):bo F 168 [G9 a,G9 b,ints p,ints q] G=some (.bool (decide (jI a b p q)),G) :=
 cg rfl rfl (by
  generalize hW:decide (jI a b p q)=W;simp only[jI]at hW;obtain⟨a1,a2⟩:=a;obtain⟨b1,b2⟩:=b;simp only at hW;by_cases h1:a1=b1
  ·by_cases h2:a2=b2
   ·simp[wrap64,DO,agZ p q hp,h1,h2]
    simpa [h1,h2] using hW
   ·simp[wrap64,DO,h1,h2]
    simpa [h1,h2] using hW
  ·simp[wrap64,DO,h1]
   simpa [h1] using hW)
end Go.Proofs.YtmpikpodpgnjhaaGreat
namespace Go.Proofs.YtmpikpodpgnjhaaGreat
set_option linter.all false
open Go.Vm
attribute [local simp] eS eT eQ eR
def jw(u:Un)(s:Us)(q:Int):Prop:=fg u s∧jG u s q
noncomputable instance {u:Un} {s:Us} {q:Int}:Decidable (jw u s q):=by unfold jw;infer_instance
def ix(s:Us)(q:Int):Int:=if 0<q∧s.cq=0 then 1 else 0
noncomputable def vU:List Un→List Us→List Int→Int×Int×Int→Option (Int×Int×Int)
 |u::us,s::ss,f::fs,a=>if jw u s f then vU us ss fs (a.1+f,a.2.1+pow u f,a.2.2+ix s f) else none
 |_,_,_,a=>some a
noncomputable def y6(us:List Un)(ss:List Us)(fs:List Int):Option (Int×Int×Int):=if us.length=ss.length∧us.length=fs.length then vU us ss fs (0,0,0) else none
def Br:Option (Int×Int×Int)→V
 |some (a,b,c)=>.tuple [i64 a,i64 b,i64 c,.bool true]
 |none=>.tuple [i64 0,i64 0,i64 0,.bool false]
theorem Ha{u:Un}{s:Us}{q:Int}(h:jw u s q):0≤q∧q≤1073741824:=by
 obtain⟨⟨hc,_⟩,h2⟩:=h;have hu:=oW hc;have:=hu.least;have:=hu.Mf;unfold jG at h2;split at h2
 ·omega
 ·have a:=h2.2.2.1
  have b:=h2.2.2.2.1;omega
theorem Hb{u:Un}{q:Int}:0≤pow u q∧pow u q≤1073741824:=by
 unfold pow;split
 ·rename_i h
  have hu:=oW h.1;have hp:=hu.cv.pos;have a:=Bo hu.cv q;have b:=hu.top;have c:=(hu.cv.y0 0 (by omega)).1
  omega
 ·omega
theorem Mw{s:Us}{q:Int}:0≤ix s q∧ix s q≤1:=by unfold ix;split<;>omega
theorem TC(us:List Un)(ss:List Us)(fs:List Int)(hn:us.length≤1000)(G:List aV):bo F 121 [jZ us,jH ss,ints fs] G=some (Br (y6 us ss fs),G) :=
 cg rfl rfl (by
  generalize hW:Br (y6 us ss fs)=W;unfold y6 at hW;by_cases h1:us.length=ss.length
  ·by_cases h2:us.length=fs.length
   ·rw[if_pos ⟨h1,h2⟩]at hW
    simp +contextual (disch:=omega) [-getElem?_pos,wrap64,DJ,← h1,← h2];refine go_loop (fun x:Nat×Int×Int×Int=>abC (jH ss) (ints fs) x.2.1 x.2.2.1 x.2.2.2 (jZ us) us.length x.1 G)
     (fun x=>x.1≤us.length∧Br (vU (us.drop x.1) (ss.drop x.1) (fs.drop x.1) (x.2.1,x.2.2.1,x.2.2.2))=W∧(0≤x.2.1∧x.2.1≤1073741824*(x.1:Int))∧(0≤x.2.2.1∧x.2.2.1≤1073741824*(x.1:Int))∧0≤x.2.2.2∧x.2.2.2≤x.1) (fun x=>us.length-x.1) (0,0,0,0) rfl (by simp) (by simpa using hW) ?_
    rintro⟨i,a,b,c⟩ ⟨hi,hq,ha,hb,hc⟩;simp only at hi hq ha hb hc;simp +contextual (disch:=omega) [-getElem?_pos,wrap64,R3];refine b9 (fun h4=>?_) (fun h4=>?_)
    ·have h4:i<us.length:=by omega
     have h5:i<ss.length:=by omega
     have h6:i<fs.length:=by omega
     rw[sK h4,sK h5,sK h6,vU]at hq;by_cases h7:jw (nth us i) (nth ss i) (nth fs i)
     ·rw[if_pos h7]at hq
      have r1:=Ha h7;have r2:=Hb (u:=nth us i) (q:=nth fs i);have r3:=Mw (s:=nth ss i) (q:=nth fs i);have h8:decide (fg (nth us i) (nth ss i)∧jG (nth us i) (nth ss i) (nth fs i))=true:=decide_eq_true h7;simp only at hq;have Mx:i+1≤us.length∧Br (vU (us.drop (i+1)) (ss.drop (i+1)) (fs.drop (i+1)) (a+nth fs i,b+pow (nth us i) (nth fs i),c+ix (nth ss i) (nth fs i)))=W ∧
        (0≤a+nth fs i∧a+nth fs i≤1073741824*((i+1:Nat):Int))∧(0≤b+pow (nth us i) (nth fs i)∧b+pow (nth us i) (nth fs i)≤1073741824*((i+1:Nat):Int))∧0≤c+ix (nth ss i) (nth fs i)∧c+ix (nth ss i) (nth fs i)≤(i+1:Nat) :=
       ⟨by omega,hq,by omega,by omega,by omega⟩
      have hN:=Mk (nth us i) (nth ss i) (nth fs i) [];have e:qI (nth us i) (nth ss i) (nth fs i)=0:=by
       obtain⟨⟨q1,q2⟩,q3⟩:=h7;simp[qI,q1,q3,show fg (nth us i) (nth ss i) from⟨q1,q2⟩]
      simp only[e,if_true]at hN;by_cases h9:0<nth fs i
      ·by_cases fW:(nth ss i).cq=0
       ·have ko:ix (nth ss i) (nth fs i)=1:=by simp[ix,h9,fW]
        simp +contextual (disch:=omega) [-getElem?_pos,wrap64,bp (l:=us),bp (l:=ss),eB,hN,Mj,h9];simp +contextual (disch:=omega) [-getElem?_pos,wrap64,fW];exact cc (i+1,a+nth fs i,b+pow (nth us i) (nth fs i),c+ix (nth ss i) (nth fs i)) (by simp[ko]) Mx (by simp;omega)
       ·have ko:ix (nth ss i) (nth fs i)=0:=by simp[ix,fW]
        simp +contextual (disch:=omega) [-getElem?_pos,wrap64,bp (l:=us),bp (l:=ss),eB,hN,Mj,h9];simp +contextual (disch:=omega) [-getElem?_pos,wrap64,fW];exact cc (i+1,a+nth fs i,b+pow (nth us i) (nth fs i),c+ix (nth ss i) (nth fs i)) (by simp[ko]) Mx (by simp;omega)
      ·have ko:ix (nth ss i) (nth fs i)=0:=by simp[ix,h9]
       simp +contextual (disch:=omega) [-getElem?_pos,wrap64,bp (l:=us),bp (l:=ss),eB,hN,Mj,h9];exact cc (i+1,a+nth fs i,b+pow (nth us i) (nth fs i),c+ix (nth ss i) (nth fs i)) (by simp[ko]) Mx (by simp;omega)
     ·rw[if_neg h7]at hq
      have hN:=Mk (nth us i) (nth ss i) (nth fs i) [];have e:¬qI (nth us i) (nth ss i) (nth fs i)=0:=fun e=>by
       unfold qI at e;split at e
       ·contradiction
       ·split at e
        ·cases e
        ·split at e
         ·cases e
         ·rename_i a1 a2 a3
          exact h7 ⟨Decidable.of_not_not a2,Decidable.of_not_not a3⟩
      simp only[e,if_false]at hN;simp +contextual (disch:=omega) [-getElem?_pos,wrap64,bp (l:=us),bp (l:=ss),eB,hN,e];exact hq
    ·obtain rfl:i=us.length:=by omega
     rw[List.drop_length,vU]at hq
     ·exact hq
     ·intro u mq s ss' f fs' e;cases e
   ·rw[if_neg (fun h=>h2 h.2)]at hW
    have h3:¬ss.length=fs.length:=by omega
    simp +contextual (disch:=omega) [-getElem?_pos,wrap64,DJ,h1];refine gV (fun h=>?_) (fun h=>?_)
    ·exact hW
    ·simp[-List.length_eq_zero_iff,-Int.natCast_eq_zero]at h
     omega
  ·rw[if_neg (fun h=>h1 h.1)]at hW
   simp +contextual (disch:=omega) [-getElem?_pos,wrap64,DJ];refine gV (fun h=>?_) (fun h=>?_)
   ·exact hW
   ·simp[-List.length_eq_zero_iff,-Int.natCast_eq_zero]at h
    omega)
end Go.Proofs.YtmpikpodpgnjhaaGreat
namespace Go.Proofs.YtmpikpodpgnjhaaGreat
set_option linter.all false
open Go.Vm
attribute [local simp] eS eT eQ eR
noncomputable def py(u:Un)(s:Us)(g:Int):List Int:=(dedup (mK (fk u g++[0,s.cq]))).filter fun q=>decide (jw u s q)
noncomputable abbrev Hc(u:Un)(s:Us)(q:Int):List V:=[i64 q,i64 (pow u q),i64 (ix s q)]
theorem jJ{α:Type}[Inhabited α]{l:List α}{i:Nat}(h:i<l.length):l.take (i+1)=l.take i++[nth l i]:=by
 rw[List.take_add_one,bp h];rfl
theorem og{α:Type}[Inhabited α]{l m:List α}{i:Nat}(h:i<l.length):nth (l++m) i=nth l i:=by
 simp[nth,List.getElem?_append,h]
theorem TD{u:Un}{s:Us}{L Z:List Int}{G:List aV}{K:cH}(hL:L.length≤4294967296)
  (hK:∀z,K (.exit 0) ⟨[(3,.bK 3 0),(4,.bK 4 0),(10,.slice (some 1061) 3 ((L.filter fun q=>decide (jw u s q)).map (Hc u s))),(30,.b0 20026 1 L.length),(31,i64 L.length),(32,i64 L.length),(33,z)],[(3,u.row),(4,s.row),(20026,dS (L++Z))],[(1061,(L.filter fun q=>decide (jw u s q)).length)],G⟩) :
  go (bo F) Te ⟨[(3,.bK 3 0),(4,.bK 4 0),(10,.aK),(30,.b0 20026 1 L.length),(31,i64 L.length),(32,i64 0)],[(3,u.row),(4,s.row),(20026,dS (L++Z))],[],G⟩ K:=by
 refine go_loop (fun i:Nat=>adO (.slice (some 1061) 3 (((L.take i).filter fun q=>decide (jw u s q)).map (Hc u s))) L.length L.length i u.row s.row (dS (L++Z)) ((L.take i).filter fun q=>decide (jw u s q)).length G) (fun i=>i≤L.length) (fun i=>L.length-i) 0 rfl (by simp) (by omega) ?_
 intro i hi;have hlen:((L.take i).filter fun q=>decide (jw u s q)).length≤i:=Nat.le_trans (List.length_filter_le _ _) (by simp;omega)
 simp (disch:=omega) [wrap64,Td];refine b9 (fun h1=>?_) (fun h1=>?_)
 ·have h1:i<L.length:=by omega
  have h2:i<(L++Z).length:=by simp;omega
  have hM:=agN u s (nth L i) [];by_cases h3:jw u s (nth L i)
  ·have h4:decide (fg u s∧jG u s (nth L i))=true:=decide_eq_true h3
   rw[h4]at hM;have h5:(L.take (i+1)).filter (fun q=>decide (jw u s q))=(L.take i).filter (fun q=>decide (jw u s q))++[nth L i]:=by
    rw[jJ h1,List.filter_append];simp[h3]
   by_cases h6:0<nth L i
   ·by_cases h7:s.cq=0
    ·have h8:ix s (nth L i)=1:=by simp[ix,h6,h7]
     simp (disch:=omega) [wrap64,kT h2,og h1,hM,DX,h6];simp (disch:=omega) [wrap64,h7];exact cc (i+1) (by rw[h5];simp[h8]) (by omega) (by omega)
    ·have h8:ix s (nth L i)=0:=by simp[ix,h7]
     simp (disch:=omega) [wrap64,kT h2,og h1,hM,DX,h6];simp (disch:=omega) [wrap64,h7];exact cc (i+1) (by rw[h5];simp[h8]) (by omega) (by omega)
   ·have h8:ix s (nth L i)=0:=by simp[ix,h6]
    simp (disch:=omega) [wrap64,kT h2,og h1,hM,DX,h6];exact cc (i+1) (by rw[h5];simp[h8]) (by omega) (by omega)
  ·have h4:decide (fg u s∧jG u s (nth L i))=false:=decide_eq_false h3
   rw[h4]at hM;have h5:(L.take (i+1)).filter (fun q=>decide (jw u s q))=(L.take i).filter (fun q=>decide (jw u s q)):=by
    rw[jJ h1,List.filter_append];simp[h3]
   simp (disch:=omega) [wrap64,kT h2,og h1,hM];exact cc (i+1) (by rw[h5];simp) (by omega) (by omega)
 ·obtain rfl:i=L.length:=by omega
  rw[List.take_length];exact hK _
theorem ag0{u:Un}{s:Us}(hv:fg u s){g:Int}(hg:1≤g∧g≤1073741824)(G:List aV):bo F 225 [un u,us s,i64 g] G =
  some (if gC u g=0 then .tuple [.slice (some 0) 3 ((py u s g).map (Hc u s)),.bool true] else .tuple [.slice (some 0) 3 [],.bool false],G) :=
 cg rfl rfl (by
  by_cases he:gC u g=0
  ·have hlen:(fk u g).length≤200:=by
    unfold gC at he;split at he
    ·contradiction
    ·split at he
     ·cases he
     ·split at he
      ·cases he
      ·omega
   have hf:mW u g=fk u g:=by simp[mW,he]
   have hd:=A0 (mK (fk u g++[0,s.cq]));have hs:=(xe (fk u g++[0,s.cq])).length_eq;simp at hs;have hm:rW 1 (mK (fk u g++[0,s.cq]))=dedup (mK (fk u g++[0,s.cq]))++List.replicate ((mK (fk u g++[0,s.cq])).length-(dedup (mK (fk u g++[0,s.cq]))).length) 0:=rfl;have C9:∀l,rW 0 l=mK l:=fun _=>rfl;have hc:(py u s g)=(dedup (mK (fk u g++[0,s.cq]))).filter fun q=>decide (jw u s q):=rfl;rw[if_pos he,hc];have ha:∀l:List Int,dS l++[i64 0,i64 s.cq]=dS (l++[0,s.cq]):=fun l=>by simp[dS]
   have hz:[i64 0,i64 s.cq]=dS [0,s.cq]:=rfl;have oK:(fk u g).length+2=(fk u g++[0,s.cq]).length:=by simp
   have yt:(mK (fk u g++[0,s.cq])).length=(fk u g++[0,s.cq]).length:=(xe _).length_eq;by_cases hn:fk u g=[]
   ·rw[hn]at hm hd hs hf yt ⊢
    simp only[List.nil_append]at hm hd hs yt ⊢;have e1:kG 20026 0 (.tuple [own [],i64 0])=some (.tuple [.dZ 1,i64 0],none):=rfl;have h2:2=(mK [0,s.cq]).length:=by rw[yt];rfl
    simp (disch:=omega) [wrap64,DS,Mp,he,hf,e1,hz,FY (zs:=[0,s.cq]) (n:=2) rfl (by omega),C9,FY h2 (by omega),hm]
    refine TD (u:=u) (s:=s) (L:=dedup (mK [0,s.cq])) (by omega) fun z=>?_
    simp (disch:=omega) [wrap64,wrap64]
   ·have e1:=ZQ (id:=20026) (t:=0) (e:=0) hn
    rw[←oK]at yt;simp (disch:=omega) [wrap64,DS,Mp,he,hf,e1,ha,FY oK (by omega),C9,FY yt.symm (by omega),hm]
    refine TD (u:=u) (s:=s) (L:=dedup (mK (fk u g++[0,s.cq]))) (by omega) fun z=>?_
    simp (disch:=omega) [wrap64,wrap64]
  ·rw[if_neg he]
   have hf:mW u g=[]:=by simp[mW,he]
   have e1:kG 20026 0 (.tuple [own [],i64 (gC u g)])=some (.tuple [.dZ 1,i64 (gC u g)],none):=rfl;simp (disch:=omega) [wrap64,DS,Mp,he,hf,e1])
end Go.Proofs.YtmpikpodpgnjhaaGreat
namespace Go.Proofs.YtmpikpodpgnjhaaGreat
set_option linter.all false
open Go.Vm
attribute [local simp] eS eT eQ eR
def y7(us:List Un)(ss:List Us):Prop:=∀i,i<us.length→fg (nth us i) (nth ss i)
noncomputable instance {us:List Un} {ss:List Us}:Decidable (y7 us ss):=Classical.propDecidable _
def y8(us:List Un)(g:Int):Prop:=∀i,i<us.length→gC (nth us i) g=0
noncomputable instance {us:List Un} {g:Int}:Decidable (y8 us g):=Classical.propDecidable _
noncomputable def pz(us:List Un)(ss:List Us)(g release:Int):Int :=
 if 6<us.length then 10 else if us.length≠ss.length then 3 else if ¬y7 us ss then 3
 else if g<1∨1073741824<g∨release<0∨1073741824<release then 1 else if 200*g<release then 10 else if ¬y8 us g then 10 else 0
noncomputable abbrev D3(g:Int)(u:Un)(s:Us):List V:=[.slice none 3 ((py u s g).map (Hc u s))]
theorem vV{α β γ:Type}[Inhabited α][Inhabited β]{f:α→β→γ}{a:List α}{b:List β}{i:Nat}(h1:i<a.length)(h2:i<b.length) :
  List.zipWith f (a.take (i+1)) (b.take (i+1))=List.zipWith f (a.take i) (b.take i)++[f (nth a i) (nth b i)]:=by
 rw[jJ h1,jJ h2,List.zipWith_append (by simp;omega)]
 rfl
theorem ag1(us:List Un)(ss:List Us)(g release:Int)(G:List aV):bo F 217 [jZ us,jH ss,i64 g,i64 release] G =
  some (.tuple [.slice (some 0) 1 (if pz us ss g release=0 then List.zipWith (D3 g) us ss else []),i64 (pz us ss g release)],G) :=
 cg rfl rfl (by
  generalize hE:pz us ss g release=E;generalize hW:V.tuple [.slice (some 0) 1 (if E=0 then List.zipWith (D3 g) us ss else []),i64 E]=W
  unfold pz at hE;simp +contextual (disch:=omega) [-getElem?_pos,wrap64,L1];refine b9 (fun h1=>?_) (fun h1=>gV (fun h2=>?_) (fun h2=>?_))
  ·rw[if_pos (by omega)]at hE
   subst hE;exact hW
  ·simp[-List.length_eq_zero_iff,-Int.natCast_eq_zero]at h2
   rw[if_neg (by omega),if_pos (by omega)]at hE
   subst hE;exact hW
  ·simp[-List.length_eq_zero_iff,-Int.natCast_eq_zero]at h2
   have hl:us.length=ss.length:=by omega
   rw[if_neg (by omega),if_neg (by omega)]at hE
   refine go_loop (fun i:Nat=>ady (jZ us) (jH ss) g release (jZ us) us.length i G) (fun i=>i≤us.length∧∀j,j<i→fg (nth us j) (nth ss j)) (fun i=>us.length-i) 0 rfl (by simp) ⟨by omega,by omega⟩ ?_
   rintro i ⟨hi,hv⟩;simp +contextual (disch:=omega) [-getElem?_pos,wrap64,S5];refine b9 (fun h3=>?_) (fun h3=>?_)
   ·have h3:i<us.length:=by omega
    by_cases h4:fg (nth us i) (nth ss i)
    ·simp +contextual (disch:=omega) [-getElem?_pos,wrap64,bp (l:=us),bp (l:=ss),xi,h4]
     refine cc (i+1) (by simp) ⟨by omega,fun j hj=>?_⟩ (by omega)
     rcases Nat.lt_or_ge j i with h5|h5
     ·exact hv j h5
     ·rwa [show j=i by omega]
    ·rw[if_pos (fun h=>h4 (h i h3))]at hE
     subst hE;simp +contextual (disch:=omega) [-getElem?_pos,wrap64,bp (l:=us),bp (l:=ss),xi,h4];exact hW
   ·obtain rfl:i=us.length:=by omega
    rw[if_neg (fun h=>h hv)]at hE;by_cases h5:g<1∨1073741824<g
    ·rw[if_pos (by omega)]at hE
     subst hE;have h6:(decide (g<1) || decide (1073741824<g))=true:=by simpa using h5
     simp +contextual (disch:=omega) [-getElem?_pos,wrap64,dG,h6];exact hW
    ·have h6:(decide (g<1) || decide (1073741824<g))=false:=by simpa using h5
     by_cases h7:release<0∨1073741824<release
     ·rw[if_pos (by omega)]at hE
      subst hE;have h8:(!decide (0≤release) || !decide (release≤1073741824))=true:=by simp;omega
      simp +contextual (disch:=omega) [-getElem?_pos,wrap64,dG,h6,h8];exact hW
     ·rw[if_neg (by omega)]at hE
      have h8:(!decide (0≤release) || !decide (release≤1073741824))=false:=by simp;omega
      simp +contextual (disch:=omega) [-getElem?_pos,wrap64,dG,h6,h8];refine b9 (fun h9=>?_) (fun h9=>?_)
      ·rw[if_pos h9]at hE
       subst hE;exact hW
      ·rw[if_neg h9]at hE
       refine go_loop (fun i:Nat=>adA (jH ss) g (.slice (some 1079) 1 (List.zipWith (D3 g) (us.take i) (ss.take i))) (jZ us) us.length i i G)
        (fun i=>i≤us.length∧∀j,j<i→gC (nth us j) g=0) (fun i=>us.length-i) 0 rfl (by simp) ⟨by omega,by omega⟩ ?_
       rintro i ⟨hi,hf⟩;simp +contextual (disch:=omega) [-getElem?_pos,wrap64,S6];refine b9 (fun h3=>?_) (fun h3=>?_)
       ·have h3:i<us.length:=by omega
        have fW:i<ss.length:=by omega
        have hC:=ag0 (hv i h3) (g:=g) (by omega) []
        by_cases h4:gC (nth us i) g=0
        ·rw[if_pos h4]at hC
         simp +contextual (disch:=omega) [-getElem?_pos,wrap64,bp (l:=us),bp (l:=ss),hC];refine cc (i+1) ?_ ⟨by omega,fun j hj=>?_⟩ (by omega)
         ·rw[vV h3 fW];simp
         rcases Nat.lt_or_ge j i with h5|h5
         ·exact hf j h5
         ·rwa [show j=i by omega]
        ·rw[if_neg h4]at hC
         rw[if_pos (fun h=>h4 (h i h3))]at hE;subst hE;simp +contextual (disch:=omega) [-getElem?_pos,wrap64,bp (l:=us),bp (l:=ss),hC];exact hW
       ·obtain rfl:i=us.length:=by omega
        rw[if_neg (fun h=>h hf)]at hE;subst hE;rw[List.take_length,List.take_of_length_le (by omega)]
        simp[←hW,hl])
end Go.Proofs.YtmpikpodpgnjhaaGreat
namespace Go.Proofs.YtmpikpodpgnjhaaGreat
set_option linter.all false
open Go.Vm
attribute [local simp] eS eT eQ eR
structure Ch where
 cq:Int
 jj:Int
 jk:Int
 deriving Inhabited
abbrev Ch.row(c:Ch):List V:=[i64 c.cq,i64 c.jj,i64 c.jk]
abbrev My(l:List Ch):List V:=[.slice none 3 (l.map Ch.row)]
abbrev Part:=Option (Int×Int×Int)
def iX:Part→List V
 |none=>[.bool false,i64 0,i64 0,i64 0]
 |some (p,s,f)=>[.bool true,i64 p,i64 s,i64 f]
@[simp] theorem aoZ{p:Part}{d:Nat}:((iX p).all fun v => !v.cI d)=true:=by
 cases p with
 |none=>rfl
 |some q=>rfl
abbrev lM(p:Part):V:=.agg (iX p)
def c7(rest:Int→Part)(left:Int)(c:Ch)(out:Part):Part:=match rest (left-c.cq) with
 |none=>out
 |some (p,s,_)=>match out with
  |none=>some (p+c.jj,s+c.jk,c.cq)
  |some (q,t,f)=>if jI (p+c.jj,s+c.jk) (q,t) [] [] then some (p+c.jj,s+c.jk,c.cq) else some (q,t,f)
def oX(rest:Int→Part)(left:Int):List Ch→Part→Part
 |[],out=>out
 |c::cs,out=>if left<c.cq then out else oX rest left cs (c7 rest left c out)
def jl:List (List Ch)→Int→Part
 |[],_=>some (0,0,0)
 |l::ls,left=>oX (jl ls) left l none
def mb:List (List Ch)→Int→Option (List Int)
 |[],_=>some []
 |l::ls,left=>match jl (l::ls) left with
  |none=>none
  |some (_,_,f)=>(mb ls (left-f)).map (f :: ·)
abbrev xl:=List ((Int×Int)×Part)
def qb(m:xl):List (V×V):=m.map fun e=>(.agg [i64 e.1.1,i64 e.1.2],lM e.2)
def uN(LL:List (List Ch))(m:xl):Prop:=∀e∈m,∃i:Nat,e.1.1=i∧e.2=jl (LL.drop i) e.1.2
def gl(n:Nat)(LL:List (List Ch))(m:xl):List aV:=[.cells [.slice none 1 (LL.map My)],.map (qb m),.cells [.map 1],.cells [.fn n [.bN 0 0,.bN 2 0,.bN 3 0]]]
theorem Mz{LL:List (List Ch)}{i:Nat}{left:Int}:∀{m:xl} {k:Nat},uN LL m →
  lU true [0,0] (.agg [i64 i,i64 left]) (qb m) k=some none∨∃j,lU true [0,0] (.agg [i64 i,i64 left]) (qb m) k=some (some (k+j,lM (jl (LL.drop i) left)))∧j<m.length
 |[],k,_=>.inl rfl
 |e::m,k,h=>by
  obtain⟨⟨a,b⟩,p⟩:=e;obtain⟨i',h1,h2⟩:=h ((a,b),p) (by simp)
  simp only at h1 h2;have h3:∀x∈m,∃i:Nat,x.1.1=i∧x.2=jl (LL.drop i) x.1.2:=fun x hx=>h x (by simp[hx])
  have step:lU true [0,0] (.agg [i64 i,i64 left]) (qb (((a,b),p)::m)) k=if (i:Int)=a∧left=b then some (some (k,lM p)) else lU true [0,0] (.agg [i64 i,i64 left]) (qb m) (k+1):=by
   show(match V.lT true [0,0] (.agg [i64 i,i64 left]) (.agg [i64 a,i64 b]) with|some true=>some (some (k,lM p))|some false=>lU true [0,0] (.agg [i64 i,i64 left]) (qb m) (k+1)|none=>none)=_
   have:V.lT true [0,0] (.agg [i64 i,i64 left]) (.agg [i64 a,i64 b])=some (decide ((i:Int)=a∧left=b)):=by
    simp[V.lT,eK,jQ]<;>(by_cases q1:(i:Int)=a<;>by_cases q2:left=b<;>simp[q1,q2])
   rw[this];by_cases q:(i:Int)=a∧left=b
   ·simp[q]
   ·rw[decide_eq_false q,if_neg q]
  rw[step];split
  ·rename_i q
   refine .inr ⟨0,?_,by simp⟩
   have:i=i':=by omega
   subst this;rw[h2,← q.2];rfl
  ·rcases Mz (k:=k+1) h3 with h4 | ⟨j,h4,h5⟩
   ·exact .inl h4
   ·exact .inr ⟨j+1,by rw[h4];simp;omega,by simp;omega⟩
structure Lb(LL:List (List Ch)):Prop where
 kd:LL.length≤6
 each:∀i,i<LL.length→(nth LL i).length≤1000
 cq:∀i j,i<LL.length→j<(nth LL i).length→0≤(nth (nth LL i) j).cq∧(nth (nth LL i) j).cq≤1073741824
 jj:∀i j,i<LL.length→j<(nth LL i).length→0≤(nth (nth LL i) j).jj∧(nth (nth LL i) j).jj≤1073741824
 jk:∀i j,i<LL.length→j<(nth LL i).length→0≤(nth (nth LL i) j).jk∧(nth (nth LL i) j).jk≤1
def pb(k:Int):Part→Prop
 |none=>True
 |some (p,s,f)=>(0≤p∧p≤1073741824*k)∧(0≤s∧s≤k)∧0≤f
theorem TE{rest:Int→Part}{left k:Int}(hr:∀x,pb k (rest x)):∀{l:List Ch} {out:Part},pb (k+1) out →
  (∀c∈l,0≤c.cq∧(0≤c.jj∧c.jj≤1073741824)∧0≤c.jk∧c.jk≤1)→pb (k+1) (oX rest left l out)
 |[],out,h,_=>h
 |c::cs,out,h,hc=>by
  unfold oX;split
  ·exact h
  ·refine TE hr ?_ fun c hm=>hc c (by simp[hm])
   have h1:=hr (left-c.cq);obtain⟨c1,c2,c3⟩:=hc c (by simp)
   have ok:∀p s f,pb k (some (p,s,f))→pb (k+1) (some (p+c.jj,s+c.jk,c.cq)):=fun p s f q=>by
    simp only[pb]at q ⊢;omega
   unfold c7;split
   ·exact h
   ·rename_i p s f e
    rw[e]at h1;split
    ·exact ok _ _ _ h1
    ·split
     ·exact ok _ _ _ h1
     ·exact h
theorem Bt{α:Type}[Inhabited α]{l:List α}{a:α}(h:a∈l):∃i,i<l.length∧nth l i=a:=by
 obtain⟨i,hi,rfl⟩:=List.getElem_of_mem h;exact⟨i,hi,by simp[nth,hi]⟩
theorem TF:∀{LL:List (List Ch)} {left:Int},(∀l∈LL,∀c∈l,0≤c.cq∧(0≤c.jj∧c.jj≤1073741824)∧0≤c.jk∧c.jk≤1)→pb LL.length (jl LL left)
 |[],left,_=>by simp[jl,pb]
 |l::ls,left,h=>by
  have:=TE (left:=left) (k:=ls.length) (l:=l) (out:=none) (fun x=>TF (LL:=ls) (left:=x) fun l hl=>h l (by simp[hl])) trivial (h l (by simp))
  simpa [jl] using this
theorem Lb.all{LL:List (List Ch)}(h:Lb LL):∀l∈LL,∀c∈l,0≤c.cq∧(0≤c.jj∧c.jj≤1073741824)∧0≤c.jk∧c.jk≤1:=by
 intro l hl c hc;obtain⟨i,hi,rfl⟩:=Bt hl;obtain⟨j,hj,rfl⟩:=Bt hc;exact⟨(h.cq i j hi hj).1,h.jj i j hi hj,h.jk i j hi hj⟩
theorem Lb.pb{LL:List (List Ch)}(h:Lb LL)(i:Nat)(left:Int):pb (LL.length:Int) (jl (LL.drop i) left):=by
 have h1:=TF (LL:=LL.drop i) (left:=left) (fun l hl=>h.all l (List.mem_of_mem_drop hl));cases hb:jl (LL.drop i) left with
 |none=>trivial
 |some q =>
  obtain⟨p,s,f⟩:=q;rw[hb]at h1;simp only[Go.Proofs.YtmpikpodpgnjhaaGreat.pb]at h1 ⊢;have:(LL.drop i).length≤LL.length:=by simp
  omega
theorem MA{LL:List (List Ch)}{i:Nat}(h:i<LL.length)(left:Int):jl (LL.drop i) left=oX (jl (LL.drop (i+1))) left (nth LL i) none:=by
 rw[sK h];rfl
theorem ag2(a b:Int):V.lT true [0,0] (.agg [i64 a,i64 b]) (.agg [i64 a,i64 b])=some true:=by simp[V.lT,eK,jQ]
theorem ag3{LL:List (List Ch)}(hL:Lb LL):∀(k i:Nat) (left:Int) (m:xl),k=LL.length-i→i≤LL.length→0≤left→left≤1073741824→uN LL m →
  ∃m',bo F 218 [i64 i,i64 left,.bN 0 0,.bN 2 0,.bN 3 0] (gl 218 LL m)=some (lM (jl (LL.drop i) left),gl 218 LL m')∧uN LL m':=by
 intro k;induction k with
 |zero =>
  intro i left m hk hi h0 h1 hm;obtain rfl:i=LL.length:=by omega
  refine⟨m,cg rfl rfl ?_,hm⟩;rw[List.drop_length,jl];simp (disch:=omega) [-getElem?_pos,wrap64,Bl,gl];rfl
 |succ k ih =>
  intro i left m hk hi h0 h1 hm
  suffices h:∀Q:V→List aV→Prop,(∀m',uN LL m'→Q (lM (jl (LL.drop i) left)) (gl 218 LL m'))→iV (bo F) 218 [i64 i,i64 left,.bN 0 0,.bN 2 0,.bN 3 0] (gl 218 LL m) Q by
   obtain⟨_,_,h,m',h1,rfl,rfl⟩:=h (fun v G=>∃m',uN LL m'∧v=lM (jl (LL.drop i) left)∧G=gl 218 LL m') fun m' a=>⟨m',a,rfl,rfl⟩;exact⟨m',h,h1⟩
  intro Q hQ;refine ju rfl rfl ?_;have bG:i<LL.length:=by omega
  have tS:¬(i:Int)=LL.length:=by omega
  have lF:=ag2 i left;have Bq:=hL.kd;rcases Mz (LL:=LL) (i:=i) (left:=left) (m:=m) (k:=0) hm with hf | ⟨j,hf,hj⟩
  ·rw[MA bG left]at hQ
   generalize hW:oX (jl (LL.drop (i+1))) left (nth LL i) none=W at hQ;have hn:=hL.each i bG;simp (disch:=omega) [-getElem?_pos,wrap64,Bl,gl,tS,lF,hf,bp (l:=LL)];have uF:∀(out:Part) (m:xl),out=W→uN LL m→(lU true [0,0] (.agg [i64 i,i64 left]) (qb m) 0=some none∧∃m',uN LL m'∧qb m++[(.agg [i64 i,i64 left],lM out)]=qb m') ∨
     ∃j v,lU true [0,0] (.agg [i64 i,i64 left]) (qb m) 0=some (some (j,v))∧∃m',uN LL m'∧(qb m).set j (.agg [i64 i,i64 left],lM out)=qb m':=by
    rintro out m rfl hm;rw[←MA bG left]at hW;rcases Mz (LL:=LL) (i:=i) (left:=left) (m:=m) (k:=0) hm with h5 | ⟨j,h5,hj⟩
    ·refine .inl ⟨h5,m++[(((i:Int),left),out)],fun e he=>?_,by simp[qb]⟩
     rcases List.mem_append.1 he with h6|h6
     ·exact hm e h6
     ·obtain rfl:=List.mem_singleton.1 h6
      exact⟨i,rfl,hW.symm⟩
    ·refine .inr ⟨_,_,h5,m.set (0+j) (((i:Int),left),out),fun e he=>?_,by simp[qb,List.map_set]⟩
     rcases List.mem_or_eq_of_mem_set he with h6|rfl
     ·exact hm e h6
     ·exact⟨i,rfl,hW.symm⟩
   refine go_loop (fun x:Nat×Part×xl=>adD i left (.bN 2 0) (.bN 3 0) (.slice none 3 ((nth LL i).map Ch.row)) (nth LL i).length x.1 [.bool false,i64 0,i64 0,i64 0] (iX x.2.1) (gl 218 LL x.2.2))
    (fun x=>x.1≤(nth LL i).length∧oX (jl (LL.drop (i+1))) left ((nth LL i).drop x.1) x.2.1=W∧uN LL x.2.2) (fun x=>(nth LL i).length-x.1) (0,none,m) rfl (by simp[gl,iX]) ⟨by omega,by simpa using hW,hm⟩ ?_
   rintro⟨j,out,m⟩ ⟨hj,hq,hm⟩;simp only at hj hq hm;simp (disch:=omega) [-getElem?_pos,wrap64,S7,gl];refine b9 (fun h2=>?_) (fun h2=>?_)
   ·have h2:j<(nth LL i).length:=by omega
    have a1:=hL.cq i j bG h2;have a2:=hL.jj i j bG h2;have a3:=hL.jk i j bG h2;rw[sK h2,oX]at hq;have gt:=bp h2;simp (disch:=omega) [-getElem?_pos,wrap64,gt];refine b9 (fun h3=>?_) (fun h3=>?_)
    ·rw[if_pos h3]at hq
     rcases uF out m hq hm with⟨g1,m2,g2,g3⟩ | ⟨j2,v2,g1,m2,g2,g3⟩
     ·have:=hQ m2 g2
      cases nF:W with
      |none =>
       rw[hq]at g3;rw[nF]at this g3;simp only[gl,← g3,lM,iX]at this;simp (disch:=omega) [-getElem?_pos,wrap64,hq,nF,iX,lF,g1];exact this
      |some q =>
       obtain⟨p,s,f⟩:=q;rw[hq]at g3;rw[nF]at this g3;simp only[gl,← g3,lM,iX]at this;simp (disch:=omega) [-getElem?_pos,wrap64,hq,nF,iX,lF,g1];exact this
     ·have:=hQ m2 g2
      cases nF:W with
      |none =>
       rw[hq]at g3;rw[nF]at this g3;simp only[gl,← g3,lM,iX]at this;simp (disch:=omega) [-getElem?_pos,wrap64,hq,nF,iX,lF,g1];exact this
      |some q =>
       obtain⟨p,s,f⟩:=q;rw[hq]at g3;rw[nF]at this g3;simp only[gl,← g3,lM,iX]at this;simp (disch:=omega) [-getElem?_pos,wrap64,hq,nF,iX,lF,g1];exact this
    ·obtain⟨m',hI,sG⟩:=ih (i+1) (left-(nth (nth LL i) j).cq) m (by omega) (by omega) (by omega) (by omega) hm
     have hp:=hL.pb (i+1) (left-(nth (nth LL i) j).cq);rw[if_neg h3]at hq;unfold c7 at hq;simp only[gl]at hI
     push_cast at hI
     cases hb:jl (LL.drop (i+1)) (left-(nth (nth LL i) j).cq) with
     |none =>
      rw[hb]at hI hp hq;simp only[lM,iX]at hI;simp only at hq;simp (disch:=omega) [-getElem?_pos,wrap64,hI];exact cc (j+1,out,m') (by simp[gl]) ⟨by omega,hq,sG⟩ (by simp;omega)
     |some q =>
      obtain⟨p,s,f⟩:=q;rw[hb]at hI hp hq;simp only[lM,iX]at hI;simp only at hq;simp only[pb]at hp;have hB:=fun a b=>agY a b [] [] (by simp) []
      simp only[ints,List.map_nil]at hB;cases out with
      |none =>
       simp only at hq;simp (disch:=omega) [-getElem?_pos,wrap64,hI,iX];exact cc (j+1,some (p+(nth (nth LL i) j).jj,s+(nth (nth LL i) j).jk,(nth (nth LL i) j).cq),m') (by simp[gl,iX]) ⟨by omega,hq,sG⟩ (by simp;omega)
      |some o =>
       obtain⟨p',s',f'⟩:=o;simp only at hq;by_cases vW:jI (p+(nth (nth LL i) j).jj,s+(nth (nth LL i) j).jk) (p',s') [] []
       ·rw[if_pos vW]at hq
        have hB:=hB (p+(nth (nth LL i) j).jj,s+(nth (nth LL i) j).jk) (p',s');simp (disch:=omega) [-getElem?_pos,wrap64,hI,iX,hB,vW];exact cc (j+1,some (p+(nth (nth LL i) j).jj,s+(nth (nth LL i) j).jk,(nth (nth LL i) j).cq),m') (by simp[gl,iX]) ⟨by omega,hq,sG⟩ (by simp;omega)
       ·rw[if_neg vW]at hq
        have hB:=hB (p+(nth (nth LL i) j).jj,s+(nth (nth LL i) j).jk) (p',s');simp (disch:=omega) [-getElem?_pos,wrap64,hI,iX,hB,vW];exact cc (j+1,some (p',s',f'),m') (by simp[gl,iX]) ⟨by omega,hq,sG⟩ (by simp;omega)
   ·obtain rfl:j=(nth LL i).length:=by omega
    rw[List.drop_length,oX]at hq;rcases uF out m hq hm with⟨g1,m2,g2,g3⟩ | ⟨j2,v2,g1,m2,g2,g3⟩
    ·have:=hQ m2 g2
     cases nF:W with
     |none =>
      rw[hq]at g3;rw[nF]at this g3;simp only[gl,← g3,lM,iX]at this;simp (disch:=omega) [-getElem?_pos,wrap64,hq,nF,iX,lF,g1];exact this
     |some q =>
      obtain⟨p,s,f⟩:=q;rw[hq]at g3;rw[nF]at this g3;simp only[gl,← g3,lM,iX]at this;simp (disch:=omega) [-getElem?_pos,wrap64,hq,nF,iX,lF,g1];exact this
    ·have:=hQ m2 g2
     cases nF:W with
     |none =>
      rw[hq]at g3;rw[nF]at this g3;simp only[gl,← g3,lM,iX]at this;simp (disch:=omega) [-getElem?_pos,wrap64,hq,nF,iX,lF,g1];exact this
     |some q =>
      obtain⟨p,s,f⟩:=q;rw[hq]at g3;rw[nF]at this g3;simp only[gl,← g3,lM,iX]at this;simp (disch:=omega) [-getElem?_pos,wrap64,hq,nF,iX,lF,g1];exact this
  ·cases hb:jl (LL.drop i) left with
   |none =>
    rw[hb]at hf hQ;simp only[lM,iX]at hf;simp (disch:=omega) [-getElem?_pos,wrap64,Bl,gl,tS,lF,hf];exact hQ m hm
   |some q =>
    obtain⟨p,s,f⟩:=q;rw[hb]at hf hQ;simp only[lM,iX]at hf;simp (disch:=omega) [-getElem?_pos,wrap64,Bl,gl,tS,lF,hf];exact hQ m hm
end Go.Proofs.YtmpikpodpgnjhaaGreat
namespace Go.Proofs.YtmpikpodpgnjhaaGreat
set_option linter.all false
open Go.Vm
attribute [local simp] eS eT eQ eR
noncomputable def D5(g:Int)(u:Un)(s:Us):List Ch:=(py u s g).map fun q=>⟨q,pow u q,ix s q⟩
noncomputable def iY(us:List Un)(ss:List Us)(g:Int):List (List Ch):=List.zipWith (D5 g) us ss
theorem ag4(us:List Un)(ss:List Us)(g:Int):List.zipWith (D3 g) us ss=(iY us ss g).map My:=by
 rw[iY,List.map_zipWith];congr 1;funext u s;simp[D5,D3,My]
theorem MB{u:Un}{g:Int}(h:gC u g=0):(fk u g).length≤200:=by
 unfold gC at h;split at h
 ·contradiction
 ·split at h
  ·cases h
  ·split at h
   ·cases h
   ·omega
theorem ag5{u:Un}{s:Us}{g:Int}(h:gC u g=0):(py u s g).length≤202:=by
 have h1:=MB h;have h2:=A0 (mK (fk u g++[0,s.cq]));have h3:=(xe (fk u g++[0,s.cq])).length_eq;have h4:(py u s g).length≤(dedup (mK (fk u g++[0,s.cq]))).length:=List.length_filter_le _ _;simp at h3;omega
structure He(us:List Un)(ss:List Us)(g:Int):Prop where
 kd:us.length≤6
 len:us.length=ss.length
 valid:y7 us ss
 ao0:1≤g∧g≤1073741824
 TG:y8 us g
theorem MC{us:List Un}{ss:List Us}{g release:Int}(h:pz us ss g release=0):He us ss g∧(0≤release∧release≤1073741824)∧release≤200*g:=by
 unfold pz at h;split at h
 ·cases h
 ·split at h
  ·cases h
  ·split at h
   ·cases h
   ·split at h
    ·cases h
    ·split at h
     ·cases h
     ·split at h
      ·cases h
      ·rename_i h1 h2 h3 h4 h5 h6
       exact⟨⟨by omega,Decidable.of_not_not h2,Decidable.of_not_not h3,by omega,Decidable.of_not_not h6⟩,by omega,by omega⟩
theorem MD{us:List Un}{ss:List Us}{g:Int}(h:us.length=ss.length):(iY us ss g).length=us.length:=by simp[iY,h]
theorem uO{α β:Type}[Inhabited α][Inhabited β]{f:α→β}{l:List α}{i:Nat}(h:i<l.length):nth (l.map f) i=f (nth l i):=by
 simp[nth,h]
theorem Bu{α β γ:Type}[Inhabited α][Inhabited β][Inhabited γ]{f:α→β→γ}{a:List α}{b:List β}{i:Nat}(h1:i<a.length)(h2:i<b.length):nth (List.zipWith f a b) i=f (nth a i) (nth b i):=by
 simp[nth,List.getElem?_zipWith,h1,h2]
theorem qd{α:Type}[Inhabited α]{l:List α}{i:Nat}(h:i<l.length):nth l i∈l:=List.mem_of_getElem? (bp h)
theorem TH{us:List Un}{ss:List Us}{g:Int}(h:He us ss g):Lb (iY us ss g):=by
 have hl:=h.len;have e:∀i,i<(iY us ss g).length→nth (iY us ss g) i=D5 g (nth us i) (nth ss i):=fun i hi=>by
  rw[MD hl]at hi;exact Bu hi (by omega)
 have c:∀i j,i<(iY us ss g).length→j<(nth (iY us ss g) i).length→∃q,jw (nth us i) (nth ss i) q∧nth (nth (iY us ss g) i) j=⟨q,pow (nth us i) q,ix (nth ss i) q⟩:=fun i j hi hj=>by
  rw[e i hi]at hj ⊢;have sf:j<(py (nth us i) (nth ss i) g).length:=by simpa [D5] using hj
  refine⟨nth (py (nth us i) (nth ss i) g) j,?_,uO sf⟩;have:=qd sf;simp only[py,List.mem_filter,decide_eq_true_eq]at this;exact this.2
 refine⟨by rw[MD hl];exact h.kd,fun i hi=>?_,fun i j hi hj=>?_,fun i j hi hj=>?_,fun i j hi hj=>?_⟩
 ·rw[e i hi]
  rw[MD hl]at hi;have:=ag5 (s:=nth ss i) (h.TG i hi);simp[D5];omega
 ·obtain⟨q,h1,h2⟩:=c i j hi hj
  rw[h2];exact Ha h1
 ·obtain⟨q,h1,h2⟩:=c i j hi hj
  rw[h2];exact Hb
 ·obtain⟨q,h1,h2⟩:=c i j hi hj
  rw[h2];exact Mw
noncomputable def j0(us:List Un)(ss:List Us)(g release:Int):Int:=if pz us ss g release≠0 then pz us ss g release else if mb (iY us ss g) release=none then 9 else 0
noncomputable def g9(us:List Un)(ss:List Us)(g release:Int):List Int:=if pz us ss g release≠0 then [] else (mb (iY us ss g) release).getD []
theorem TI{LL:List (List Ch)}:∀{l:List Ch} {rest:Int→Part} {left:Int} {out:Part} {p s f:Int},(∀q t e,out=some (q,t,e)→e≤left)→oX rest left l out=some (p,s,f)→f≤left
 |[],rest,left,out,p,s,f,h,he=>h _ _ _ (by simpa [oX] using he)
 |c::cs,rest,left,out,p,s,f,h,he=>by
  unfold oX at he;split at he
  ·exact h _ _ _ he
  ·refine TI (LL:=LL) (fun q t e hq=>?_) he
   unfold c7 at hq;split at hq
   ·exact h _ _ _ hq
   ·split at hq
    ·cases hq;omega
    ·split at hq
     ·cases hq;omega
     ·cases hq;exact h _ _ _ rfl
theorem ag6(us:List Un)(ss:List Us)(g release:Int):∃G',bo F 206 [jZ us,jH ss,i64 g,i64 release] []=some (.tuple [own (g9 us ss g release),i64 (j0 us ss g release)],G'):=by
 suffices h:∀Q:V→List aV→Prop,(∀G,Q (.tuple [own (g9 us ss g release),i64 (j0 us ss g release)]) G)→iV (bo F) 206 [jZ us,jH ss,i64 g,i64 release] [] Q by
  obtain⟨_,_,h,rfl⟩:=h (fun v _=>v=.tuple [own (g9 us ss g release),i64 (j0 us ss g release)]) fun _=>rfl;exact⟨_,h⟩
 intro Q hQ;refine ju rfl rfl ?_;have hS:=ag1 us ss g release [];by_cases h0:pz us ss g release=0
 ·rw[h0,if_pos rfl,ag4]at hS
  obtain⟨h1,h2,h3⟩:=MC h0;have hL:=TH h1;have eL:g9 us ss g release=(mb (iY us ss g) release).getD []:=by simp[g9,h0]
  have eE:j0 us ss g release=if mb (iY us ss g) release=none then 9 else 0:=by simp[j0,h0]
  rw[eL,eE]at hQ;have Bq:=hL.kd;generalize hLL:iY us ss g=LL at *;simp (disch:=omega) [wrap64,GM,hS];refine go_loop (fun x:List Int×Int×xl=>adq (.bN 0 0) (.bN 3 0) (.slice (some 1048) 1 (x.1.map fun n=>[i64 n])) x.2.1 x.1.length (gl 218 LL x.2.2))
   (fun x=>x.1.length≤LL.length∧(0≤x.2.1∧x.2.1≤1073741824)∧(mb (LL.drop x.1.length) x.2.1).map (x.1 ++ ·)=mb LL release∧uN LL x.2.2) (fun x=>LL.length-x.1.length) ([],release,[]) rfl (by simp[gl,qb]) ⟨by simp,by simpa using h2,by simp,fun e he=>by simp at he⟩ ?_
  rintro⟨fs,left,m⟩ ⟨i1,i2,i3,i4⟩;simp only at i1 i2 i3 i4;simp (disch:=omega) [wrap64,SY,gl];refine b9 (fun h4=>?_) (fun h4=>?_)
  ·have h4:fs.length<LL.length:=by omega
   obtain⟨m',hI,sG⟩:=ag3 hL (LL.length-fs.length) fs.length left m rfl i1 i2.1 i2.2 i4;have hp:=hL.pb fs.length left;have hd:LL.drop fs.length=nth LL fs.length::LL.drop (fs.length+1):=sK h4;rw[hd,mb,← hd]at i3;cases hb:jl (LL.drop fs.length) left with
   |none =>
    rw[hb]at hI i3;simp only[lM,iX,gl]at hI;simp only[Option.map_none]at i3;rw[←i3]at hQ;simp only[if_true,Option.getD_none]at hQ;simp (disch:=omega) [wrap64,hI];exact hQ _
   |some q =>
    obtain⟨p,s,f⟩:=q;rw[hb]at hI i3 hp;have hf:f≤left:=by
     rw[MA h4]at hb;exact TI (LL:=LL) (fun q t e hq=>by cases hq) hb
    simp only[lM,iX,gl]at hI;simp only[pb]at hp;simp only at i3;simp (disch:=omega) [wrap64,hI];refine cc (fs++[f],left-f,m') (by simp[gl]) ⟨by simp;omega,by simp;omega,?_,sG⟩ (by simp;omega)
    rw[←i3];simp[Function.comp_def]
  ·have e:fs.length=LL.length:=by omega
   rw[e,List.drop_length,mb]at i3;simp only[Option.map_some,List.append_nil]at i3;rw[←i3]at hQ;simpa using hQ _
 ·rw[if_neg h0]at hS
  have eL:g9 us ss g release=[]:=by simp[g9,h0]
  have eE:j0 us ss g release=pz us ss g release:=by simp[j0,h0]
  rw[eL,eE]at hQ;simp (disch:=omega) [wrap64,GM,hS,h0];exact hQ _
end Go.Proofs.YtmpikpodpgnjhaaGreat
namespace Go.Proofs.YtmpikpodpgnjhaaGreat
set_option linter.all false
open Go.Vm
def tT(a b:Int×Int):Prop:=b.1<a.1∨(a.1=b.1∧a.2<b.2)
theorem vX{a b:Int×Int}{p q:List Int}:jI a b p q↔tT a b∨(a.1=b.1∧a.2=b.2∧gw p q<0):=by
 unfold jI tT;split
 ·omega
 ·split<;>omega
theorem ag8{a:Int}{p q:List Int}:gw (a::p) (a::q)=gw p q:=by simp[gw]
theorem ag9{a b:Int}{p q:List Int}(h:b<a):¬gw (a::p) (b::q)<0:=by
 simp only[gw];rw[if_neg (by omega),if_pos h]
 omega
def sL:List (List Ch)→List Ch→Prop
 |[],[]=>True
 |l::ls,c::P=>c∈l∧sL ls P
 |_,_=>False
def sF(P:List Ch):Int:=(P.map Ch.cq).sum
def sP(P:List Ch):Int:=(P.map Ch.jj).sum
def sS(P:List Ch):Int:=(P.map Ch.jk).sum
theorem aha{LL:List (List Ch)}:∀{P:List Ch},(∀l∈LL,∀c∈l,0≤c.cq)→sL LL P→0≤sF P:=by
 induction LL with
 |nil=>intro P _ hp;cases P with
  |nil=>simp[sF]
  |cons c P=>exact hp.elim
 |cons l ls ih =>
  intro P h hp;cases P with
  |nil=>exact hp.elim
  |cons c P =>
   have h1:=ih (fun l hl=>h l (by simp[hl])) hp.2
   have h2:=h l (by simp) c hp.1
   simp only[sF,List.map_cons,List.sum_cons]at h1 ⊢;omega
structure Top(LL:List (List Ch))(left:Int)(P:List Ch):Prop where
 y9:sL LL P
 sum:sF P≤left
 best:∀Q,sL LL Q→sF Q≤left→¬jI (sP Q,sS Q) (sP P,sS P) (Q.map Ch.cq) (P.map Ch.cq)
structure Jn(ls:List (List Ch))(left:Int)(pre:List Ch)(p s f:Int)(c:Ch)(P:List Ch):Prop where
 mem:c∈pre
 cq:c.cq=f
 y9:sL ls P
 sum:c.cq+sF P≤left
 jj:c.jj+sP P=p
 jk:c.jk+sS P=s
 rest:mb ls (left-f)=some (P.map Ch.cq)
 best:∀d∈pre,∀Q,sL ls Q→d.cq+sF Q≤left→¬jI (d.jj+sP Q,d.jk+sS Q) (p,s) (d.cq::Q.map Ch.cq) (c.cq::P.map Ch.cq)
def J(ls:List (List Ch))(left:Int)(pre:List Ch):Part→Prop
 |none=>∀c∈pre,∀Q,sL ls Q→left<c.cq+sF Q
 |some (p,s,f)=>∃c P,Jn ls left pre p s f c P
theorem TJ{ls:List (List Ch)}{left:Int}{pre:List Ch}{out:Part}{l:List Ch}(h:J ls left pre out)(hn:∀c∈l,∀Q,sL ls Q→left<c.cq+sF Q):J ls left (pre++l) out:=by
 cases out with
 |none =>
  intro c hc Q hQ;rcases List.mem_append.1 hc with h1|h1
  ·exact h c h1 Q hQ
  ·exact hn c h1 Q hQ
 |some q =>
  obtain⟨p,s,f⟩:=q;obtain⟨c,P,j⟩:=h;refine⟨c,P,⟨by simp[j.mem],j.cq,j.y9,j.sum,j.jj,j.jk,j.rest,fun d hd Q hQ hs=>?_⟩⟩
  rcases List.mem_append.1 hd with h1|h1
  ·exact j.best d h1 Q hQ hs
  ·have:=hn d h1 Q hQ
   omega
def Good(ls:List (List Ch)):Prop:=∀left,0≤left→match jl ls left with
 |none=>∀Q,sL ls Q→left<sF Q
 |some (p,s,_)=>∃P,Top ls left P∧sP P=p∧sS P=s∧mb ls left=some (P.map Ch.cq)
theorem ahd{ls:List (List Ch)}(hg:Good ls){left:Int}{pre:List Ch}{out:Part}{c:Ch}(h:J ls left pre out)(Hf:∀d∈pre,d.cq<c.cq)(hle:c.cq≤left):J ls left (pre++[c]) (c7 (jl ls) left c out):=by
 have hg:=hg (left-c.cq) (by omega)
 unfold c7;cases hb:jl ls (left-c.cq) with
 |none =>
  rw[hb]at hg;exact TJ h fun d hd Q hQ=>by
   obtain rfl:=List.mem_singleton.1 hd;have:=hg Q hQ;omega
 |some q =>
  obtain⟨p0,s0,f0⟩:=q;rw[hb]at hg;obtain⟨P0,t,rfl,rfl,e0⟩:=hg;have new:∀d∈[c],∀Q,sL ls Q→d.cq+sF Q≤left→¬jI (d.jj+sP Q,d.jk+sS Q) (sP P0+c.jj,sS P0+c.jk) (d.cq::Q.map Ch.cq) (c.cq::P0.map Ch.cq):=by
   intro d hd Q hQ hs tV;obtain rfl:=List.mem_singleton.1 hd;refine t.best Q hQ (by omega) ?_
   rw[vX]at tV ⊢;rw[ag8]at tV;unfold tT at tV ⊢;simp only at tV ⊢;omega
  have ts:=t.sum;cases out with
  |none =>
   simp only;refine⟨c,P0,⟨by simp,rfl,t.y9,by omega,by omega,by omega,e0,fun d hd Q hQ hs=>?_⟩⟩
   rcases List.mem_append.1 hd with h1|h1
   ·have:=h d h1 Q hQ;omega
   ·exact new d h1 Q hQ hs
  |some o =>
   obtain⟨p,s,f⟩:=o;obtain⟨c1,P1,j⟩:=h;simp only;split
   ·rename_i tV
    rw[vX]at tV;have hv:tT (sP P0+c.jj,sS P0+c.jk) (p,s):=by
     rcases tV with h|h
     ·exact h
     ·simp[gw]at h
    unfold tT at hv;simp only at hv;refine⟨c,P0,⟨by simp,rfl,t.y9,by omega,by omega,by omega,e0,fun d hd Q hQ hs=>?_⟩⟩
    rcases List.mem_append.1 hd with h1|h1
    ·have:=j.best d h1 Q hQ hs
     rw[vX]at this ⊢;unfold tT at this ⊢;simp only at this ⊢;omega
    ·exact new d h1 Q hQ hs
   ·rename_i tV
    rw[vX]at tV;unfold tT at tV;simp only at tV;refine⟨c1,P1,⟨by simp[j.mem],j.cq,j.y9,j.sum,j.jj,j.jk,j.rest,fun d hd Q hQ hs=>?_⟩⟩
    rcases List.mem_append.1 hd with h1|h1
    ·exact j.best d h1 Q hQ hs
    ·have h2:=new d h1 Q hQ hs
     obtain rfl:=List.mem_singleton.1 h1;have h3:=ag9 (p:=Q.map Ch.cq) (q:=P1.map Ch.cq) (Hf c1 j.mem);rw[vX]at h2 ⊢;unfold tT at h2 ⊢;simp only at h2 ⊢;omega
theorem TK{ls:List (List Ch)}(hg:Good ls)(h0:∀l∈ls,∀c∈l,0≤c.cq){left:Int}:∀{cs pre:List Ch} {out:Part},(pre++cs).Pairwise (fun a b=>a.cq<b.cq)→J ls left pre out→J ls left (pre++cs) (oX (jl ls) left cs out)
 |[],pre,out,_,h=>by simpa [oX] using h
 |c::cs,pre,out,hp,h=>by
  have vg:=List.pairwise_append.1 hp;unfold oX;split
  ·rename_i bG
   refine TJ h fun d hd Q hQ=>?_;have:=aha h0 hQ;rcases List.mem_cons.1 hd with rfl|h1
   ·omega
   ·have:=(List.pairwise_cons.1 vg.2.1).1 d h1
    omega
  ·have h1:=ahd hg h (c:=c) (fun d hd=>vg.2.2 d hd c (by simp)) (by omega)
   have h2:=TK hg h0 (cs:=cs) (pre:=pre++[c]) (by simpa using hp) h1
   simpa using h2
def TL(LL:List (List Ch)):Prop:=∀l∈LL,l.Pairwise fun a b=>a.cq<b.cq
theorem TM:∀{LL:List (List Ch)},(∀l∈LL,∀c∈l,0≤c.cq)→TL LL→Good LL
 |[],_,_=>fun left h0=>by
  simp only[jl];refine⟨[],⟨trivial,by simpa [sF] using h0,fun Q hQ _=>?_⟩,rfl,rfl,rfl⟩
  cases Q with
  |nil=>simp[jI,gw]
  |cons c Q=>exact hQ.elim
 |l::ls,h0,ha=>fun left qx=>by
  have hg:Good ls:=TM (fun l hl=>h0 l (by simp[hl])) (fun l hl=>ha l (by simp[hl]))
  have hj:=TK hg (fun l hl=>h0 l (by simp[hl])) (left:=left) (cs:=l) (pre:=[]) (out:=none) (by simpa using ha l (by simp)) (fun c hc=>by simp at hc)
  simp only[List.nil_append]at hj;have e:jl (l::ls) left=oX (jl ls) left l none:=rfl;rw[e];cases hb:oX (jl ls) left l none with
  |none =>
   rw[hb]at hj;intro Q hQ;cases Q with
   |nil=>exact hQ.elim
   |cons c Q =>
    have:=hj c hQ.1 Q hQ.2;simpa [sF] using this
  |some q =>
   obtain⟨p,s,f⟩:=q;rw[hb]at hj;obtain⟨c,P,j⟩:=hj;have j4:=j.sum;have j5:=j.jj;have j6:=j.jk;refine⟨c::P,⟨⟨j.mem,j.y9⟩,by simpa [sF] using j4,fun Q hQ hs=>?_⟩,by simpa [sP] using j5,by simpa [sS] using j6,?_⟩
   ·cases Q with
    |nil=>exact hQ.elim
    |cons d Q =>
     have:=j.best d hQ.1 Q hQ.2 (by simpa [sF] using hs)
     have e1:sP (c::P)=p:=by simpa [sP] using j5
     have e2:sS (c::P)=s:=by simpa [sS] using j6
     rw[e1,e2];simpa [sP,sS] using this
   ·rw[mb,e,hb]
    simp only;rw[j.rest];simp[j.cq]
end Go.Proofs.YtmpikpodpgnjhaaGreat
namespace Go.Proofs.YtmpikpodpgnjhaaGreat
set_option linter.all false
open Go.Vm
theorem ME{x:Int}:∀{l:List Int},x∈dedup l↔x∈l
 |[]=>Iff.rfl
 |[a]=>Iff.rfl
 |a::b::r=>by
  have ih:=ME (x:=x) (l:=b::r);unfold dedup;by_cases h:a=b
  ·simp only[h,beq_self_eq_true,cond_true,ih]
   simp
  ·have h':(a==b)=false:=by simpa using h
   simp only[h',cond_false,List.mem_cons,ih]
theorem TP:∀{l:List Int},l.Pairwise (· ≤ ·)→(dedup l).Pairwise (· < ·)
 |[],_=>.nil
 |[a],_=>by simp[dedup]
 |a::b::r,h=>by
  obtain⟨h1,h2⟩:=List.pairwise_cons.1 h;have ih:=TP h2;unfold dedup;by_cases qa:a=b
  ·simp only[qa,beq_self_eq_true,cond_true]
   exact ih
  ·have h':(a==b)=false:=by simpa using qa
   simp only[h',cond_false,List.pairwise_cons];refine⟨fun x hx=>?_,ih⟩;rw[ME]at hx;have h3:=h1 b (by simp)
   rcases List.mem_cons.1 hx with rfl|h4
   ·omega
   ·have:=(List.pairwise_cons.1 h2).1 x h4
    omega
theorem Bv{u:Un}{s:Us}{g q:Int}:q∈py u s g↔(q∈fk u g∨q=0∨q=s.cq)∧jw u s q:=by
 simp only[py,List.mem_filter,ME,(xe _).mem_iff,decide_eq_true_eq,List.mem_append,List.mem_cons,List.not_mem_nil,or_false]
theorem ahf{u:Un}{s:Us}{g:Int}:(py u s g).Pairwise (· < ·):=(TP (Kt _)).filter _
def lN(g:Int):List Un→List Us→List Int→Prop
 |u::us,s::ss,q::F=>q∈py u s g∧lN g us ss F
 |[],[],[]=>True
 |_,_,_=>False
noncomputable def iD:List Un→List Int→Int
 |u::us,q::F=>pow u q+iD us F
 |_,_=>0
def iE:List Us→List Int→Int
 |s::ss,q::F=>ix s q+iE ss F
 |_,_=>0
noncomputable def sM:List Un→List Us→List Int→List Ch
 |u::us,s::ss,q::F=>⟨q,pow u q,ix s q⟩::sM us ss F
 |_,_,_=>[]
theorem zA{g:Int}:∀{us:List Un} {ss:List Us} {F:List Int},lN g us ss F→F.length=us.length∧F.length=ss.length
 |[],[],[],_=>⟨rfl,rfl⟩
 |_::_,_::_,_::_,h=>by have:=zA h.2;simp;omega
 |[],_::_,_,h=>h.elim
 |[],[],_::_,h=>h.elim
 |_::_,[],_,h=>h.elim
 |_::_,_::_,[],h=>h.elim
theorem Hg{g:Int}:∀{us:List Un} {ss:List Us} {F:List Int},lN g us ss F→sL (iY us ss g) (sM us ss F)∧(sM us ss F).map Ch.cq=F∧sF (sM us ss F)=F.sum∧sP (sM us ss F)=iD us F∧sS (sM us ss F)=iE ss F
 |[],[],[],_=>⟨trivial,rfl,rfl,rfl,rfl⟩
 |u::us,s::ss,q::F,h=>by
  obtain⟨h1,h2,h3,h4,h5⟩:=Hg h.2;refine⟨⟨List.mem_map.2 ⟨q,h.1,rfl⟩,h1⟩,by simp[sM,h2],?_,?_,?_⟩
  ·simp only[sF]at h3 ⊢;simp[sM,h3]
  ·simp only[sP]at h4 ⊢;simp[sM,iD,h4]
  ·simp only[sS]at h5 ⊢;simp[sM,iE,h5]
 |[],_::_,_,h=>h.elim
 |[],[],_::_,h=>h.elim
 |_::_,[],_,h=>h.elim
 |_::_,_::_,[],h=>h.elim
theorem TQ{g:Int}:∀{us:List Un} {ss:List Us} {P:List Ch},us.length=ss.length→sL (iY us ss g) P→lN g us ss (P.map Ch.cq)∧P=sM us ss (P.map Ch.cq)
 |[],[],[],_,_=>⟨trivial,rfl⟩
 |[],[],_::_,_,h=>h.elim
 |[],_::_,_,h,_=>by simp at h
 |_::_,[],_,h,_=>by simp at h
 |_::_,_::_,[],_,h=>h.elim
 |u::us,s::ss,c::P,hl,h=>by
  obtain⟨h1,h2⟩:=TQ (by simpa using hl) h.2
  obtain⟨q,hq,rfl⟩:=List.mem_map.1 h.1;exact⟨⟨hq,h1⟩,by simp[sM];exact h2⟩
structure zB(g:Int)(us:List Un)(ss:List Us)(left:Int)(F:List Int):Prop where
 lN:lN g us ss F
 sum:F.sum≤left
 best:∀E,Go.Proofs.YtmpikpodpgnjhaaGreat.lN g us ss E→E.sum≤left→¬jI (iD us E,iE ss E) (iD us F,iE ss F) E F
theorem TR{g:Int}:∀{us:List Un} {ss:List Us},TL (iY us ss g)
 |[],_=>fun l hl=>by simp[iY]at hl
 |_::_,[]=>fun l hl=>by simp[iY]at hl
 |u::us,s::ss=>fun l hl=>by
  rcases List.mem_cons.1 hl with rfl|h
  ·exact List.pairwise_map.2 ahf
  ·exact TR (us:=us) (ss:=ss) l h
theorem TS{us:List Un}{ss:List Us}{g left:Int}(hs:He us ss g)(h0:0≤left) :
  match mb (iY us ss g) left with
  |none=>∀F,lN g us ss F→left<F.sum
  |some F=>zB g us ss left F:=by
 have hL:=TH hs;have hn:∀l∈iY us ss g,∀c∈l,0≤c.cq:=fun l hl c hc=>(hL.all l hl c hc).1;have hg:=TM hn TR;have yk:=hg left h0;cases hb:jl (iY us ss g) left with
 |none =>
  rw[hb]at yk;have e:mb (iY us ss g) left=none:=by
   cases hl:iY us ss g with
   |nil=>rw[hl]at hb;simp[jl]at hb
   |cons l ls=>rw[mb,← hl,hb]
  rw[e];intro F hF;obtain⟨h1,_,h3,_⟩:=Hg hF;have:=yk _ h1;omega
 |some q =>
  obtain⟨p,s,f⟩:=q;rw[hb]at yk;obtain⟨P,t,_,_,e⟩:=yk;rw[e];obtain⟨h1,h2⟩:=TQ hs.len t.y9;obtain⟨_,_,h3,h4,h5⟩:=Hg h1;rw[←h2]at h3 h4 h5;refine⟨h1,by have:=t.sum;omega,fun E hE hs=>?_⟩
  obtain⟨e1,e2,e3,e4,e5⟩:=Hg hE;have:=t.best _ e1 (by omega)
  rwa [e2,e4,e5,h4,h5]at this
theorem TT:∀{p q:List Int},p.length=q.length→(gw p q<0∨gw q p<0∨p=q)
 |[],[],_=>.inr (.inr rfl)
 |[],_::_,h=>by simp at h
 |_::_,[],h=>by simp at h
 |a::p,b::q,h=>by
  have ih:=TT (p:=p) (q:=q) (by simpa using h)
  simp only[gw];rcases Int.lt_trichotomy a b with h1|h1|h1
  ·left;simp[h1]
  ·subst h1
   simp only[Int.lt_irrefl,if_false];rcases ih with h2|h2|h2
   ·exact .inl h2
   ·exact .inr (.inl h2)
   ·exact .inr (.inr (by rw[h2]))
  ·right;left;simp[h1]
theorem ahg{a b:Int×Int}{p q:List Int}(h:p.length=q.length):jI a b p q∨jI b a q p∨(a=b∧p=q):=by
 rw[vX,vX];unfold tT;obtain⟨a1,a2⟩:=a;obtain⟨b1,b2⟩:=b;rcases TT h with h1|h1|h1
 ·simp only[Prod.mk.injEq];omega
 ·simp only[Prod.mk.injEq];omega
 ·simp only[Prod.mk.injEq,h1,and_true];omega
theorem zB.unique{g:Int}{us:List Un}{ss:List Us}{left:Int}{F E:List Int}(h:zB g us ss left F)(h':zB g us ss left E):F=E:=by
 have l1:=zA h.lN;have l2:=zA h'.lN;rcases ahg (a:=(iD us F,iE ss F)) (b:=(iD us E,iE ss E)) (p:=F) (q:=E) (by omega) with h1|h1|h1
 ·exact absurd h1 (h'.best F h.lN h.sum)
 ·exact absurd h1 (h.best E h'.lN h'.sum)
 ·exact h1.2
theorem TU{g:Int}:∀{us:List Un} {ss:List Us} {F:List Int} {a b c:Int},lN g us ss F→vU us ss F (a,b,c)=some (a+F.sum,b+iD us F,c+iE ss F)
 |[],[],[],a,b,c,_=>by simp[vU,iD,iE]
 |u::us,s::ss,q::F,a,b,c,h=>by
  rw[vU,if_pos (Bv.1 h.1).2,TU h.2];simp only[List.sum_cons,iD,iE,Option.some.injEq,Prod.mk.injEq];omega
 |[],_::_,_,_,_,_,h=>h.elim
 |[],[],_::_,_,_,_,h=>h.elim
 |_::_,[],_,_,_,_,h=>h.elim
 |_::_,_::_,[],_,_,_,h=>h.elim
theorem TV{g:Int}{us:List Un}{ss:List Us}{F:List Int}(h:lN g us ss F):y6 us ss F=some (F.sum,iD us F,iE ss F):=by
 have l:=zA h;rw[y6,if_pos (by omega),TU h]
 simp
end Go.Proofs.YtmpikpodpgnjhaaGreat
