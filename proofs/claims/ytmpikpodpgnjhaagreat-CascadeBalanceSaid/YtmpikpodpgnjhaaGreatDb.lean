/- Parts of the proof, joined: Dsp1, Dsp2, Dsp3, Dsp4, Dsp5, Dsp6, Dsp7, Dsp8, Ord1, Ref1, Ref2. -/
import Derived.Test.YtmpikpodpgnjhaaGreatDa
namespace Go.Proofs.YtmpikpodpgnjhaaGreat
set_option linter.all false
open Go.Vm
attribute [local simp] eU eV eS eT
theorem sI{α:Type}[Inhabited α]{l:List α}{i:Nat}(h:i<l.length):l.drop i=nth l i::l.drop (i+1):=by
 rw[List.drop_eq_getElem_cons h];simp[nth,List.getD,h]
def gq:List Int→List Int→Int
 |[],[]=>0
 |[],_::_ => -1
 |_::_,[]=>1
 |a::p,b::q=>if a<b then -1 else if b<a then 1 else gq p q
theorem Mt(a:Int)(G:List aW):bt F 235 [i64 a] G=some (.bool false,G) :=
 cg rfl rfl (by simp[wrap64,L5])
theorem Mu(a b:Int)(G:List aW):bt F 232 [i64 a,i64 b] G=some (i64 (if a<b then -1 else if b<a then 1 else 0),G) :=
 cg rfl rfl (by
  by_cases h1:a<b
  ·simp[wrap64,DW,Mt,h1]
  ·by_cases h2:b<a
   ·simp[wrap64,DW,Mt,h1,h2]
   ·simp[wrap64,DW,Mt,h1,h2])
theorem agZ(p q:List Int)(hp:p.length≤4294967296)(G:List aW):bt F 226 [ints p,ints q] G=some (i64 (gq p q),G) :=
 cg rfl rfl (by
  generalize hW:gq p q=W;simp (disch:=omega) [-getElem?_pos,wrap64,L4];refine go_loop (fun i:Nat=>adU (ints p) (ints q) (ints p) p.length i G) (fun i=>i≤p.length∧i≤q.length∧gq (p.drop i) (q.drop i)=W) (fun i=>p.length-i) 0 rfl (by simp) ⟨by omega,by omega,by simpa using hW⟩ ?_
  rintro i ⟨h1,h2,h3⟩;simp (disch:=omega) [-getElem?_pos,wrap64,Th];refine b9 (fun h4=>?_) (fun h4=>?_)
  ·have h4:i<p.length:=by omega
   rw[sI h4]at h3;by_cases h5:i<q.length
   ·rw[sI h5,gq]at h3
    have h6:¬q.length≤i:=by omega
    by_cases h7:nth p i<nth q i
    ·rw[if_pos h7]at h3
     simp (disch:=omega) [-getElem?_pos,wrap64,eA,Mu,h6,h7];exact h3
    ·rw[if_neg h7]at h3
     by_cases h8:nth q i<nth p i
     ·rw[if_pos h8]at h3
      simp (disch:=omega) [-getElem?_pos,wrap64,eA,Mu,h6,h7,h8];exact h3
     ·rw[if_neg h8]at h3
      simp (disch:=omega) [-getElem?_pos,wrap64,eA,Mu,h6,h7,h8];exact cc (i+1) (by simp) ⟨by omega,by omega,h3⟩ (by omega)
   ·obtain rfl:i=q.length:=by omega
    rw[List.drop_length,gq]at h3;simp (disch:=omega) [-getElem?_pos,wrap64,eA];exact h3
  ·obtain rfl:i=p.length:=by omega
   rw[List.drop_length]at h3;refine b9 (fun h5=>?_) (fun h5=>?_)
   ·have h6:p.length<q.length:=by omega
    rw[sI h6,gq]at h3;exact h3
   ·obtain h6:q.drop p.length=[]:=List.drop_eq_nil_iff.2 (by omega)
    rw[h6,gq]at h3;exact h3)
abbrev Hb(a:Int×Int):V:=.agg [i64 a.1,i64 a.2]
def jE(a b:Int×Int)(p q:List Int):Prop:=if a.1≠b.1 then b.1<a.1 else if a.2≠b.2 then a.2<b.2 else gq p q<0
instance {a b:Int×Int} {p q:List Int}:Decidable (jE a b p q):=by unfold jE;infer_instance
theorem ag0(a b:Int×Int)(p q:List Int)(hp:p.length≤4294967296)(G:List aW):bt F 219 [Hb a,Hb b,ints p,ints q] G=some (.bool (decide (jE a b p q)),G) :=
 cg rfl rfl (by
  generalize hW:decide (jE a b p q)=W;simp only[jE]at hW;obtain⟨a1,a2⟩:=a;obtain⟨b1,b2⟩:=b;simp only at hW;by_cases h1:a1=b1
  ·by_cases h2:a2=b2
   ·simp[wrap64,DU,agZ p q hp,h1,h2]
    simpa [h1,h2] using hW
   ·simp[wrap64,DU,h1,h2]
    simpa [h1,h2] using hW
  ·simp[wrap64,DU,h1]
   simpa [h1] using hW)
theorem ag1(p q:List Int)(hp:p.length≤4294967296)(G:List aW):bt F 188 [ints p,ints q] G=some (.bool (decide (gq p q<0)),G) :=
 cg rfl rfl (by
  generalize hW:gq p q=W;simp (disch:=omega) [-getElem?_pos,wrap64,LH];refine go_loop (fun i:Nat=>ac3 (ints p) (ints q) p.length i G) (fun i=>i≤p.length∧i≤q.length∧gq (p.drop i) (q.drop i)=W) (fun i=>p.length-i) 0 rfl (by simp) ⟨by omega,by omega,by simpa using hW⟩ ?_
  rintro i ⟨h1,h2,h3⟩;simp (disch:=omega) [-getElem?_pos,wrap64,SP];refine b9 (fun h4=>?_) (fun h4=>?_)
  ·have h4:i<p.length:=by omega
   rw[sI h4]at h3;by_cases h5:i<q.length
   ·rw[sI h5,gq]at h3
    have h6:¬q.length≤i:=by omega
    by_cases h7:nth p i<nth q i
    ·rw[if_pos h7]at h3
     have h9:¬nth p i=nth q i:=by omega
     subst h3;simp (disch:=omega) [-getElem?_pos,wrap64,eA,h6,h7,h9,h5]
    ·rw[if_neg h7]at h3
     by_cases h8:nth q i<nth p i
     ·rw[if_pos h8]at h3
      have h9:¬nth p i=nth q i:=by omega
      subst h3;simp (disch:=omega) [-getElem?_pos,wrap64,eA,h6,h7,h9,h5]
     ·rw[if_neg h8]at h3
      have h9:nth p i=nth q i:=by omega
      simp (disch:=omega) [-getElem?_pos,wrap64,eA,h6,h9,h5];exact cc (i+1) (by simp) ⟨by omega,by omega,h3⟩ (by omega)
   ·obtain rfl:i=q.length:=by omega
    rw[List.drop_length,gq]at h3;subst h3;simp (disch:=omega) [-getElem?_pos,wrap64,eA]
  ·obtain rfl:i=p.length:=by omega
   rw[List.drop_length]at h3;by_cases h6:p.length<q.length
   ·rw[sI h6,gq]at h3
    subst h3;simp[h6]
   ·have h7:q.drop p.length=[]:=List.drop_eq_nil_iff.2 (by omega)
    rw[h7,gq]at h3;subst h3;simp;omega)
theorem TC(a b:Int×Int)(p q:List Int)(hp:p.length≤4294967296)(G:List aW):bt F 168 [Hb a,Hb b,ints p,ints q] G=some (.bool (decide (jE a b p q)),G) :=
 cg rfl rfl (by
  generalize hW:decide (jE a b p q)=W;simp only[jE]at hW;obtain⟨a1,a2⟩:=a;obtain⟨b1,b2⟩:=b;simp only at hW;by_cases h1:a1=b1
  ·by_cases h2:a2=b2
   ·simp[wrap64,DR,ag1 p q hp,h1,h2]
    simpa [h1,h2] using hW
   ·simp[wrap64,DR,h1,h2]
    simpa [h1,h2] using hW
  ·simp[wrap64,DR,h1]
   simpa [h1] using hW)
def js(u:Un)(s:Us)(q:Int):Prop:=fe u s∧jC u s q
noncomputable instance {u:Un} {s:Us} {q:Int}:Decidable (js u s q):=by unfold js;infer_instance
def iu(s:Us)(q:Int):Int:=if 0<q∧s.cq=0 then 1 else 0
noncomputable def vQ:List Un→List Us→List Int→Int×Int×Int→Option (Int×Int×Int)
 |u::us,s::ss,f::fs,a=>if js u s f then vQ us ss fs (a.1+f,a.2.1+pow u f,a.2.2+iu s f) else none
 |_,_,_,a=>some a
noncomputable def y5(us:List Un)(ss:List Us)(fs:List Int):Option (Int×Int×Int):=if us.length=ss.length∧us.length=fs.length then vQ us ss fs (0,0,0) else none
def Bt:Option (Int×Int×Int)→V
 |some (a,b,c)=>.tuple [i64 a,i64 b,i64 c,.bool true]
 |none=>.tuple [i64 0,i64 0,i64 0,.bool false]
theorem Hc{u:Un}{s:Us}{q:Int}(h:js u s q):0≤q∧q≤1073741824:=by
 obtain⟨⟨hc,_⟩,h2⟩:=h;have hu:=oS hc;have:=hu.least;have:=hu.Me;unfold jC at h2;split at h2
 ·omega
 ·have a:=h2.2.2.1
  have b:=h2.2.2.2.1;omega
theorem Hd{u:Un}{q:Int}:0≤pow u q∧pow u q≤1073741824:=by
 unfold pow;split
 ·rename_i h
  have hu:=oS h.1;have hp:=hu.cv.pos;have a:=Bq hu.cv q;have b:=hu.top;have c:=(hu.cv.y0 0 (by omega)).1
  omega
 ·omega
theorem Mv{s:Us}{q:Int}:0≤iu s q∧iu s q≤1:=by unfold iu;split<;>omega
theorem TD(us:List Un)(ss:List Us)(fs:List Int)(hn:us.length≤1000)(G:List aW):bt F 121 [jX us,jD ss,ints fs] G=some (Bt (y5 us ss fs),G) :=
 cg rfl rfl (by
  generalize hW:Bt (y5 us ss fs)=W;unfold y5 at hW;by_cases h1:us.length=ss.length
  ·by_cases h2:us.length=fs.length
   ·rw[if_pos ⟨h1,h2⟩]at hW
    simp +contextual (disch:=omega) [-getElem?_pos,wrap64,DM,← h1,← h2];refine go_loop (fun x:Nat×Int×Int×Int=>abE (jD ss) (ints fs) x.2.1 x.2.2.1 x.2.2.2 (jX us) us.length x.1 G)
     (fun x=>x.1≤us.length∧Bt (vQ (us.drop x.1) (ss.drop x.1) (fs.drop x.1) (x.2.1,x.2.2.1,x.2.2.2))=W∧(0≤x.2.1∧x.2.1≤1073741824*(x.1:Int))∧(0≤x.2.2.1∧x.2.2.1≤1073741824*(x.1:Int))∧0≤x.2.2.2∧x.2.2.2≤x.1) (fun x=>us.length-x.1) (0,0,0,0) rfl (by simp) (by simpa using hW) ?_
    rintro⟨i,a,b,c⟩ ⟨hi,hq,ha,hb,hc⟩;simp only at hi hq ha hb hc;simp +contextual (disch:=omega) [-getElem?_pos,wrap64,R4];refine b9 (fun h4=>?_) (fun h4=>?_)
    ·have h4:i<us.length:=by omega
     have h5:i<ss.length:=by omega
     have h6:i<fs.length:=by omega
     rw[sI h4,sI h5,sI h6,vQ]at hq;by_cases h7:js (nth us i) (nth ss i) (nth fs i)
     ·rw[if_pos h7]at hq
      have r1:=Hc h7;have r2:=Hd (u:=nth us i) (q:=nth fs i);have r3:=Mv (s:=nth ss i) (q:=nth fs i);have h8:decide (fe (nth us i) (nth ss i)∧jC (nth us i) (nth ss i) (nth fs i))=true:=decide_eq_true h7;simp only at hq;have Mw:i+1≤us.length∧Bt (vQ (us.drop (i+1)) (ss.drop (i+1)) (fs.drop (i+1)) (a+nth fs i,b+pow (nth us i) (nth fs i),c+iu (nth ss i) (nth fs i)))=W ∧
        (0≤a+nth fs i∧a+nth fs i≤1073741824*((i+1:Nat):Int))∧(0≤b+pow (nth us i) (nth fs i)∧b+pow (nth us i) (nth fs i)≤1073741824*((i+1:Nat):Int))∧0≤c+iu (nth ss i) (nth fs i)∧c+iu (nth ss i) (nth fs i)≤(i+1:Nat) :=
       ⟨by omega,hq,by omega,by omega,by omega⟩
      have hN:=Mj (nth us i) (nth ss i) (nth fs i) [];have e:qI (nth us i) (nth ss i) (nth fs i)=0:=by
       obtain⟨⟨q1,q2⟩,q3⟩:=h7;simp[qI,q1,q3,show fe (nth us i) (nth ss i) from⟨q1,q2⟩]
      simp only[e,if_true]at hN;by_cases h9:0<nth fs i
      ·by_cases fW:(nth ss i).cq=0
       ·have ma:iu (nth ss i) (nth fs i)=1:=by simp[iu,h9,fW]
        simp +contextual (disch:=omega) [-getElem?_pos,wrap64,bo (l:=us),bo (l:=ss),eA,hN,Mi,h9];simp +contextual (disch:=omega) [-getElem?_pos,wrap64,fW];exact cc (i+1,a+nth fs i,b+pow (nth us i) (nth fs i),c+iu (nth ss i) (nth fs i)) (by simp[ma]) Mw (by simp;omega)
       ·have ma:iu (nth ss i) (nth fs i)=0:=by simp[iu,fW]
        simp +contextual (disch:=omega) [-getElem?_pos,wrap64,bo (l:=us),bo (l:=ss),eA,hN,Mi,h9];simp +contextual (disch:=omega) [-getElem?_pos,wrap64,fW];exact cc (i+1,a+nth fs i,b+pow (nth us i) (nth fs i),c+iu (nth ss i) (nth fs i)) (by simp[ma]) Mw (by simp;omega)
      ·have ma:iu (nth ss i) (nth fs i)=0:=by simp[iu,h9]
       simp +contextual (disch:=omega) [-getElem?_pos,wrap64,bo (l:=us),bo (l:=ss),eA,hN,Mi,h9];exact cc (i+1,a+nth fs i,b+pow (nth us i) (nth fs i),c+iu (nth ss i) (nth fs i)) (by simp[ma]) Mw (by simp;omega)
     ·rw[if_neg h7]at hq
      have hN:=Mj (nth us i) (nth ss i) (nth fs i) [];have e:¬qI (nth us i) (nth ss i) (nth fs i)=0:=fun e=>by
       unfold qI at e;split at e
       ·contradiction
       ·split at e
        ·cases e
        ·split at e
         ·cases e
         ·rename_i a1 a2 a3
          exact h7 ⟨Decidable.of_not_not a2,Decidable.of_not_not a3⟩
      simp only[e,if_false]at hN;simp +contextual (disch:=omega) [-getElem?_pos,wrap64,bo (l:=us),bo (l:=ss),eA,hN,e];exact hq
    ·obtain rfl:i=us.length:=by omega
     rw[List.drop_length,vQ]at hq
     ·exact hq
     ·intro u ml s ss' f fs' e;cases e
   ·rw[if_neg (fun h=>h2 h.2)]at hW
    have h3:¬ss.length=fs.length:=by omega
    simp +contextual (disch:=omega) [-getElem?_pos,wrap64,DM,h1];refine gT (fun h=>?_) (fun h=>?_)
    ·exact hW
    ·simp[-List.length_eq_zero_iff,-Int.natCast_eq_zero]at h
     omega
  ·rw[if_neg (fun h=>h1 h.1)]at hW
   simp +contextual (disch:=omega) [-getElem?_pos,wrap64,DM];refine gT (fun h=>?_) (fun h=>?_)
   ·exact hW
   ·simp[-List.length_eq_zero_iff,-Int.natCast_eq_zero]at h
    omega)
noncomputable def pt(u:Un)(s:Us)(g:Int):List Int:=(dedup (mH (fj u g++[0,s.cq]))).filter fun q=>decide (js u s q)
noncomputable abbrev He(u:Un)(s:Us)(q:Int):List V:=[i64 q,i64 (pow u q),i64 (iu s q)]
theorem jF{α:Type}[Inhabited α]{l:List α}{i:Nat}(h:i<l.length):l.take (i+1)=l.take i++[nth l i]:=by
 rw[List.take_add_one,bo h];rfl
theorem og{α:Type}[Inhabited α]{l m:List α}{i:Nat}(h:i<l.length):nth (l++m) i=nth l i:=by
 simp[nth,List.getElem?_append,h]
theorem TE{u:Un}{s:Us}{L Z:List Int}{G:List aW}{K:cH}(hL:L.length≤4294967296)
  (hK:∀z,K (.exit 0) ⟨[(3,.bK 3 0),(4,.bK 4 0),(10,.slice (some 1061) 3 ((L.filter fun q=>decide (js u s q)).map (He u s))),(30,.cb 20026 1 L.length),(31,i64 L.length),(32,i64 L.length),(33,z)],[(3,u.row),(4,s.row),(20026,dS (L++Z))],[(1061,(L.filter fun q=>decide (js u s q)).length)],G⟩) :
  go (bt F) Tg ⟨[(3,.bK 3 0),(4,.bK 4 0),(10,.aK),(30,.cb 20026 1 L.length),(31,i64 L.length),(32,i64 0)],[(3,u.row),(4,s.row),(20026,dS (L++Z))],[],G⟩ K:=by
 refine go_loop (fun i:Nat=>adQ (.slice (some 1061) 3 (((L.take i).filter fun q=>decide (js u s q)).map (He u s))) L.length L.length i u.row s.row (dS (L++Z)) ((L.take i).filter fun q=>decide (js u s q)).length G) (fun i=>i≤L.length) (fun i=>L.length-i) 0 rfl (by simp) (by omega) ?_
 intro i hi;have hlen:((L.take i).filter fun q=>decide (js u s q)).length≤i:=Nat.le_trans (List.length_filter_le _ _) (by simp;omega)
 simp (disch:=omega) [wrap64,Te];refine b9 (fun h1=>?_) (fun h1=>?_)
 ·have h1:i<L.length:=by omega
  have h2:i<(L++Z).length:=by simp;omega
  have hM:=agP u s (nth L i) [];by_cases h3:js u s (nth L i)
  ·have h4:decide (fe u s∧jC u s (nth L i))=true:=decide_eq_true h3
   rw[h4]at hM;have h5:(L.take (i+1)).filter (fun q=>decide (js u s q))=(L.take i).filter (fun q=>decide (js u s q))++[nth L i]:=by
    rw[jF h1,List.filter_append];simp[h3]
   by_cases h6:0<nth L i
   ·by_cases h7:s.cq=0
    ·have h8:iu s (nth L i)=1:=by simp[iu,h6,h7]
     simp (disch:=omega) [wrap64,kT h2,og h1,hM,D0,h6];simp (disch:=omega) [wrap64,h7];exact cc (i+1) (by rw[h5];simp[h8]) (by omega) (by omega)
    ·have h8:iu s (nth L i)=0:=by simp[iu,h7]
     simp (disch:=omega) [wrap64,kT h2,og h1,hM,D0,h6];simp (disch:=omega) [wrap64,h7];exact cc (i+1) (by rw[h5];simp[h8]) (by omega) (by omega)
   ·have h8:iu s (nth L i)=0:=by simp[iu,h6]
    simp (disch:=omega) [wrap64,kT h2,og h1,hM,D0,h6];exact cc (i+1) (by rw[h5];simp[h8]) (by omega) (by omega)
  ·have h4:decide (fe u s∧jC u s (nth L i))=false:=decide_eq_false h3
   rw[h4]at hM;have h5:(L.take (i+1)).filter (fun q=>decide (js u s q))=(L.take i).filter (fun q=>decide (js u s q)):=by
    rw[jF h1,List.filter_append];simp[h3]
   simp (disch:=omega) [wrap64,kT h2,og h1,hM];exact cc (i+1) (by rw[h5];simp) (by omega) (by omega)
 ·obtain rfl:i=L.length:=by omega
  rw[List.take_length];exact hK _
theorem ag2{u:Un}{s:Us}(hv:fe u s){g:Int}(hg:1≤g∧g≤1073741824)(G:List aW):bt F 225 [un u,us s,i64 g] G =
  some (if gA u g=0 then .tuple [.slice (some 0) 3 ((pt u s g).map (He u s)),.bool true] else .tuple [.slice (some 0) 3 [],.bool false],G) :=
 cg rfl rfl (by
  by_cases he:gA u g=0
  ·have hlen:(fj u g).length≤200:=by
    unfold gA at he;split at he
    ·contradiction
    ·split at he
     ·cases he
     ·split at he
      ·cases he
      ·omega
   have hf:mU u g=fj u g:=by simp[mU,he]
   have hd:=A2 (mH (fj u g++[0,s.cq]));have hs:=(xd (fj u g++[0,s.cq])).length_eq;simp at hs;have hm:rU 1 (mH (fj u g++[0,s.cq]))=dedup (mH (fj u g++[0,s.cq]))++List.replicate ((mH (fj u g++[0,s.cq])).length-(dedup (mH (fj u g++[0,s.cq]))).length) 0:=rfl;have Dd:∀l,rU 0 l=mH l:=fun _=>rfl;have hc:(pt u s g)=(dedup (mH (fj u g++[0,s.cq]))).filter fun q=>decide (js u s q):=rfl;rw[if_pos he,hc];have ha:∀l:List Int,dS l++[i64 0,i64 s.cq]=dS (l++[0,s.cq]):=fun l=>by simp[dS]
   have hz:[i64 0,i64 s.cq]=dS [0,s.cq]:=rfl;have oG:(fj u g).length+2=(fj u g++[0,s.cq]).length:=by simp
   have yq:(mH (fj u g++[0,s.cq])).length=(fj u g++[0,s.cq]).length:=(xd _).length_eq;by_cases hn:fj u g=[]
   ·rw[hn]at hm hd hs hf yq ⊢
    simp only[List.nil_append]at hm hd hs yq ⊢;have e1:jN 20026 0 (.tuple [own [],i64 0])=some (.tuple [.dW 1,i64 0],none):=rfl;have h2:2=(mH [0,s.cq]).length:=by rw[yq];rfl
    simp (disch:=omega) [wrap64,DV,Mo,he,hf,e1,hz,F2 (zs:=[0,s.cq]) (n:=2) rfl (by omega),Dd,F2 h2 (by omega),hm]
    refine TE (u:=u) (s:=s) (L:=dedup (mH [0,s.cq])) (by omega) fun z=>?_
    simp (disch:=omega) [wrap64,wrap64]
   ·have e1:=ZT (id:=20026) (t:=0) (e:=0) hn
    rw[←oG]at yq;simp (disch:=omega) [wrap64,DV,Mo,he,hf,e1,ha,F2 oG (by omega),Dd,F2 yq.symm (by omega),hm]
    refine TE (u:=u) (s:=s) (L:=dedup (mH (fj u g++[0,s.cq]))) (by omega) fun z=>?_
    simp (disch:=omega) [wrap64,wrap64]
  ·rw[if_neg he]
   have hf:mU u g=[]:=by simp[mU,he]
   have e1:jN 20026 0 (.tuple [own [],i64 (gA u g)])=some (.tuple [.dW 1,i64 (gA u g)],none):=rfl;simp (disch:=omega) [wrap64,DV,Mo,he,hf,e1])
def y6(us:List Un)(ss:List Us):Prop:=∀i,i<us.length→fe (nth us i) (nth ss i)
noncomputable instance {us:List Un} {ss:List Us}:Decidable (y6 us ss):=Classical.propDecidable _
def y7(us:List Un)(g:Int):Prop:=∀i,i<us.length→gA (nth us i) g=0
noncomputable instance {us:List Un} {g:Int}:Decidable (y7 us g):=Classical.propDecidable _
noncomputable def px(us:List Un)(ss:List Us)(g release:Int):Int :=
 if 6<us.length then 10 else if us.length≠ss.length then 3 else if ¬y6 us ss then 3
 else if g<1∨1073741824<g∨release<0∨1073741824<release then 1 else if 200*g<release then 10 else if ¬y7 us g then 10 else 0
noncomputable abbrev D6(g:Int)(u:Un)(s:Us):List V:=[.slice none 3 ((pt u s g).map (He u s))]
theorem vT{α β γ:Type}[Inhabited α][Inhabited β]{f:α→β→γ}{a:List α}{b:List β}{i:Nat}(h1:i<a.length)(h2:i<b.length) :
  List.zipWith f (a.take (i+1)) (b.take (i+1))=List.zipWith f (a.take i) (b.take i)++[f (nth a i) (nth b i)]:=by
 rw[jF h1,jF h2,List.zipWith_append (by simp;omega)]
 rfl
theorem ag3(us:List Un)(ss:List Us)(g release:Int)(G:List aW):bt F 217 [jX us,jD ss,i64 g,i64 release] G =
  some (.tuple [.slice (some 0) 1 (if px us ss g release=0 then List.zipWith (D6 g) us ss else []),i64 (px us ss g release)],G) :=
 cg rfl rfl (by
  generalize hE:px us ss g release=E;generalize hW:V.tuple [.slice (some 0) 1 (if E=0 then List.zipWith (D6 g) us ss else []),i64 E]=W
  unfold px at hE;simp +contextual (disch:=omega) [-getElem?_pos,wrap64,L0];refine b9 (fun h1=>?_) (fun h1=>gT (fun h2=>?_) (fun h2=>?_))
  ·rw[if_pos (by omega)]at hE
   subst hE;exact hW
  ·simp[-List.length_eq_zero_iff,-Int.natCast_eq_zero]at h2
   rw[if_neg (by omega),if_pos (by omega)]at hE
   subst hE;exact hW
  ·simp[-List.length_eq_zero_iff,-Int.natCast_eq_zero]at h2
   have hl:us.length=ss.length:=by omega
   rw[if_neg (by omega),if_neg (by omega)]at hE
   refine go_loop (fun i:Nat=>adA (jX us) (jD ss) g release (jX us) us.length i G) (fun i=>i≤us.length∧∀j,j<i→fe (nth us j) (nth ss j)) (fun i=>us.length-i) 0 rfl (by simp) ⟨by omega,by omega⟩ ?_
   rintro i ⟨hi,hv⟩;simp +contextual (disch:=omega) [-getElem?_pos,wrap64,S6];refine b9 (fun h3=>?_) (fun h3=>?_)
   ·have h3:i<us.length:=by omega
    by_cases h4:fe (nth us i) (nth ss i)
    ·simp +contextual (disch:=omega) [-getElem?_pos,wrap64,bo (l:=us),bo (l:=ss),xh,h4]
     refine cc (i+1) (by simp) ⟨by omega,fun j hj=>?_⟩ (by omega)
     rcases Nat.lt_or_ge j i with h5|h5
     ·exact hv j h5
     ·rwa [show j=i by omega]
    ·rw[if_pos (fun h=>h4 (h i h3))]at hE
     subst hE;simp +contextual (disch:=omega) [-getElem?_pos,wrap64,bo (l:=us),bo (l:=ss),xh,h4];exact hW
   ·obtain rfl:i=us.length:=by omega
    rw[if_neg (fun h=>h hv)]at hE;by_cases h5:g<1∨1073741824<g
    ·rw[if_pos (by omega)]at hE
     subst hE;have h6:(decide (g<1) || decide (1073741824<g))=true:=by simpa using h5
     simp +contextual (disch:=omega) [-getElem?_pos,wrap64,dG,h6];exact hW
    ·have h6:(decide (g<1) || decide (1073741824<g))=false:=by simpa using h5
     by_cases h7:release<0∨1073741824<release
     ·rw[if_pos (by omega)]at hE
      subst hE;have h8:(!decide (0≤release) || !decide (release≤1073741824))=true:=by simp;omega
      simp +contextual (disch:=omega) [-getElem?_pos,wrap64,dG,h6,h8];exact hW
     ·rw[if_neg (by omega)]at hE
      have h8:(!decide (0≤release) || !decide (release≤1073741824))=false:=by simp;omega
      simp +contextual (disch:=omega) [-getElem?_pos,wrap64,dG,h6,h8];refine b9 (fun h9=>?_) (fun h9=>?_)
      ·rw[if_pos h9]at hE
       subst hE;exact hW
      ·rw[if_neg h9]at hE
       refine go_loop (fun i:Nat=>adC (jD ss) g (.slice (some 1079) 1 (List.zipWith (D6 g) (us.take i) (ss.take i))) (jX us) us.length i i G)
        (fun i=>i≤us.length∧∀j,j<i→gA (nth us j) g=0) (fun i=>us.length-i) 0 rfl (by simp) ⟨by omega,by omega⟩ ?_
       rintro i ⟨hi,hf⟩;simp +contextual (disch:=omega) [-getElem?_pos,wrap64,S7];refine b9 (fun h3=>?_) (fun h3=>?_)
       ·have h3:i<us.length:=by omega
        have fW:i<ss.length:=by omega
        have hC:=ag2 (hv i h3) (g:=g) (by omega) []
        by_cases h4:gA (nth us i) g=0
        ·rw[if_pos h4]at hC
         simp +contextual (disch:=omega) [-getElem?_pos,wrap64,bo (l:=us),bo (l:=ss),hC];refine cc (i+1) ?_ ⟨by omega,fun j hj=>?_⟩ (by omega)
         ·rw[vT h3 fW];simp
         rcases Nat.lt_or_ge j i with h5|h5
         ·exact hf j h5
         ·rwa [show j=i by omega]
        ·rw[if_neg h4]at hC
         rw[if_pos (fun h=>h4 (h i h3))]at hE;subst hE;simp +contextual (disch:=omega) [-getElem?_pos,wrap64,bo (l:=us),bo (l:=ss),hC];exact hW
       ·obtain rfl:i=us.length:=by omega
        rw[if_neg (fun h=>h hf)]at hE;subst hE;rw[List.take_length,List.take_of_length_le (by omega)]
        simp[←hW,hl])
structure Ch where
 cq:Int
 je:Int
 jf:Int
 deriving Inhabited
abbrev Ch.row(c:Ch):List V:=[i64 c.cq,i64 c.je,i64 c.jf]
abbrev Mx(l:List Ch):List V:=[.slice none 3 (l.map Ch.row)]
abbrev Part:=Option (Int×Int×Int)
def iV:Part→List V
 |none=>[.bool false,i64 0,i64 0,i64 0]
 |some (p,s,f)=>[.bool true,i64 p,i64 s,i64 f]
@[simp] theorem ao5{p:Part}{d:Nat}:((iV p).all fun v => !v.cI d)=true:=by
 cases p with
 |none=>rfl
 |some q=>rfl
abbrev lK(p:Part):V:=.agg (iV p)
def c7(rest:Int→Part)(left:Int)(c:Ch)(out:Part):Part:=match rest (left-c.cq) with
 |none=>out
 |some (p,s,_)=>match out with
  |none=>some (p+c.je,s+c.jf,c.cq)
  |some (q,t,f)=>if jE (p+c.je,s+c.jf) (q,t) [] [] then some (p+c.je,s+c.jf,c.cq) else some (q,t,f)
def oT(rest:Int→Part)(left:Int):List Ch→Part→Part
 |[],out=>out
 |c::cs,out=>if left<c.cq then out else oT rest left cs (c7 rest left c out)
def jg:List (List Ch)→Int→Part
 |[],_=>some (0,0,0)
 |l::ls,left=>oT (jg ls) left l none
def l8:List (List Ch)→Int→Option (List Int)
 |[],_=>some []
 |l::ls,left=>match jg (l::ls) left with
  |none=>none
  |some (_,_,f)=>(l8 ls (left-f)).map (f :: ·)
abbrev xk:=List ((Int×Int)×Part)
def qb(m:xk):List (V×V):=m.map fun e=>(.agg [i64 e.1.1,i64 e.1.2],lK e.2)
def uN(LL:List (List Ch))(m:xk):Prop:=∀e∈m,∃i:Nat,e.1.1=i∧e.2=jg (LL.drop i) e.1.2
def gl(n:Nat)(LL:List (List Ch))(m:xk):List aW:=[.cells [.slice none 1 (LL.map Mx)],.map (qb m),.cells [.map 1],.cells [.fn n [.bO 0 0,.bO 2 0,.bO 3 0]]]
theorem My{LL:List (List Ch)}{i:Nat}{left:Int}:∀{m:xk} {k:Nat},uN LL m →
  lR true [0,0] (.agg [i64 i,i64 left]) (qb m) k=some none∨∃j,lR true [0,0] (.agg [i64 i,i64 left]) (qb m) k=some (some (k+j,lK (jg (LL.drop i) left)))∧j<m.length
 |[],k,_=>.inl rfl
 |e::m,k,h=>by
  obtain⟨⟨a,b⟩,p⟩:=e;obtain⟨i',h1,h2⟩:=h ((a,b),p) (by simp)
  simp only at h1 h2;have h3:∀x∈m,∃i:Nat,x.1.1=i∧x.2=jg (LL.drop i) x.1.2:=fun x hx=>h x (by simp[hx])
  have step:lR true [0,0] (.agg [i64 i,i64 left]) (qb (((a,b),p)::m)) k=if (i:Int)=a∧left=b then some (some (k,lK p)) else lR true [0,0] (.agg [i64 i,i64 left]) (qb m) (k+1):=by
   show(match V.lQ true [0,0] (.agg [i64 i,i64 left]) (.agg [i64 a,i64 b]) with|some true=>some (some (k,lK p))|some false=>lR true [0,0] (.agg [i64 i,i64 left]) (qb m) (k+1)|none=>none)=_
   have:V.lQ true [0,0] (.agg [i64 i,i64 left]) (.agg [i64 a,i64 b])=some (decide ((i:Int)=a∧left=b)):=by
    simp[V.lQ,eJ,jM]<;>(by_cases q1:(i:Int)=a<;>by_cases q2:left=b<;>simp[q1,q2])
   rw[this];by_cases q:(i:Int)=a∧left=b
   ·simp[q]
   ·rw[decide_eq_false q,if_neg q]
  rw[step];split
  ·rename_i q
   refine .inr ⟨0,?_,by simp⟩
   have:i=i':=by omega
   subst this;rw[h2,← q.2];rfl
  ·rcases My (k:=k+1) h3 with h4 | ⟨j,h4,h5⟩
   ·exact .inl h4
   ·exact .inr ⟨j+1,by rw[h4];simp;omega,by simp;omega⟩
structure Lb(LL:List (List Ch)):Prop where
 kc:LL.length≤6
 each:∀i,i<LL.length→(nth LL i).length≤1000
 cq:∀i j,i<LL.length→j<(nth LL i).length→0≤(nth (nth LL i) j).cq∧(nth (nth LL i) j).cq≤1073741824
 je:∀i j,i<LL.length→j<(nth LL i).length→0≤(nth (nth LL i) j).je∧(nth (nth LL i) j).je≤1073741824
 jf:∀i j,i<LL.length→j<(nth LL i).length→0≤(nth (nth LL i) j).jf∧(nth (nth LL i) j).jf≤1
def pb(k:Int):Part→Prop
 |none=>True
 |some (p,s,f)=>(0≤p∧p≤1073741824*k)∧(0≤s∧s≤k)∧0≤f
theorem TF{rest:Int→Part}{left k:Int}(hr:∀x,pb k (rest x)):∀{l:List Ch} {out:Part},pb (k+1) out →
  (∀c∈l,0≤c.cq∧(0≤c.je∧c.je≤1073741824)∧0≤c.jf∧c.jf≤1)→pb (k+1) (oT rest left l out)
 |[],out,h,_=>h
 |c::cs,out,h,hc=>by
  unfold oT;split
  ·exact h
  ·refine TF hr ?_ fun c hm=>hc c (by simp[hm])
   have h1:=hr (left-c.cq);obtain⟨c1,c2,c3⟩:=hc c (by simp)
   have ok:∀p s f,pb k (some (p,s,f))→pb (k+1) (some (p+c.je,s+c.jf,c.cq)):=fun p s f q=>by
    simp only[pb]at q ⊢;omega
   unfold c7;split
   ·exact h
   ·rename_i p s f e
    rw[e]at h1;split
    ·exact ok _ _ _ h1
    ·split
     ·exact ok _ _ _ h1
     ·exact h
theorem Bv{α:Type}[Inhabited α]{l:List α}{a:α}(h:a∈l):∃i,i<l.length∧nth l i=a:=by
 obtain⟨i,hi,rfl⟩:=List.getElem_of_mem h;exact⟨i,hi,by simp[nth,hi]⟩
theorem TG:∀{LL:List (List Ch)} {left:Int},(∀l∈LL,∀c∈l,0≤c.cq∧(0≤c.je∧c.je≤1073741824)∧0≤c.jf∧c.jf≤1)→pb LL.length (jg LL left)
 |[],left,_=>by simp[jg,pb]
 |l::ls,left,h=>by
  have:=TF (left:=left) (k:=ls.length) (l:=l) (out:=none) (fun x=>TG (LL:=ls) (left:=x) fun l hl=>h l (by simp[hl])) trivial (h l (by simp))
  simpa [jg] using this
theorem Lb.all{LL:List (List Ch)}(h:Lb LL):∀l∈LL,∀c∈l,0≤c.cq∧(0≤c.je∧c.je≤1073741824)∧0≤c.jf∧c.jf≤1:=by
 intro l hl c hc;obtain⟨i,hi,rfl⟩:=Bv hl;obtain⟨j,hj,rfl⟩:=Bv hc;exact⟨(h.cq i j hi hj).1,h.je i j hi hj,h.jf i j hi hj⟩
theorem Lb.pb{LL:List (List Ch)}(h:Lb LL)(i:Nat)(left:Int):pb (LL.length:Int) (jg (LL.drop i) left):=by
 have h1:=TG (LL:=LL.drop i) (left:=left) (fun l hl=>h.all l (List.mem_of_mem_drop hl));cases hb:jg (LL.drop i) left with
 |none=>trivial
 |some q =>
  obtain⟨p,s,f⟩:=q;rw[hb]at h1;simp only[Go.Proofs.YtmpikpodpgnjhaaGreat.pb]at h1 ⊢;have:(LL.drop i).length≤LL.length:=by simp
  omega
theorem Mz{LL:List (List Ch)}{i:Nat}(h:i<LL.length)(left:Int):jg (LL.drop i) left=oT (jg (LL.drop (i+1))) left (nth LL i) none:=by
 rw[sI h];rfl
theorem ag4(a b:Int):V.lQ true [0,0] (.agg [i64 a,i64 b]) (.agg [i64 a,i64 b])=some true:=by simp[V.lQ,eJ,jM]
theorem ag5{LL:List (List Ch)}(hL:Lb LL):∀(k i:Nat) (left:Int) (m:xk),k=LL.length-i→i≤LL.length→0≤left→left≤1073741824→uN LL m →
  ∃m',bt F 218 [i64 i,i64 left,.bO 0 0,.bO 2 0,.bO 3 0] (gl 218 LL m)=some (lK (jg (LL.drop i) left),gl 218 LL m')∧uN LL m':=by
 intro k;induction k with
 |zero =>
  intro i left m hk hi h0 h1 hm;obtain rfl:i=LL.length:=by omega
  refine⟨m,cg rfl rfl ?_,hm⟩;rw[List.drop_length,jg];simp (disch:=omega) [-getElem?_pos,wrap64,Bo,gl];rfl
 |succ k ih =>
  intro i left m hk hi h0 h1 hm
  suffices h:∀Q:V→List aW→Prop,(∀m',uN LL m'→Q (lK (jg (LL.drop i) left)) (gl 218 LL m'))→jq (bt F) 218 [i64 i,i64 left,.bO 0 0,.bO 2 0,.bO 3 0] (gl 218 LL m) Q by
   obtain⟨_,_,h,m',h1,rfl,rfl⟩:=h (fun v G=>∃m',uN LL m'∧v=lK (jg (LL.drop i) left)∧G=gl 218 LL m') fun m' a=>⟨m',a,rfl,rfl⟩;exact⟨m',h,h1⟩
  intro Q hQ;refine jV rfl rfl ?_;have bG:i<LL.length:=by omega
  have tQ:¬(i:Int)=LL.length:=by omega
  have lC:=ag4 i left;have Bs:=hL.kc;rcases My (LL:=LL) (i:=i) (left:=left) (m:=m) (k:=0) hm with hf | ⟨j,hf,hj⟩
  ·rw[Mz bG left]at hQ
   generalize hW:oT (jg (LL.drop (i+1))) left (nth LL i) none=W at hQ;have hn:=hL.each i bG;simp (disch:=omega) [-getElem?_pos,wrap64,Bo,gl,tQ,lC,hf,bo (l:=LL)];have uD:∀(out:Part) (m:xk),out=W→uN LL m→(lR true [0,0] (.agg [i64 i,i64 left]) (qb m) 0=some none∧∃m',uN LL m'∧qb m++[(.agg [i64 i,i64 left],lK out)]=qb m') ∨
     ∃j v,lR true [0,0] (.agg [i64 i,i64 left]) (qb m) 0=some (some (j,v))∧∃m',uN LL m'∧(qb m).set j (.agg [i64 i,i64 left],lK out)=qb m':=by
    rintro out m rfl hm;rw[←Mz bG left]at hW;rcases My (LL:=LL) (i:=i) (left:=left) (m:=m) (k:=0) hm with h5 | ⟨j,h5,hj⟩
    ·refine .inl ⟨h5,m++[(((i:Int),left),out)],fun e he=>?_,by simp[qb]⟩
     rcases List.mem_append.1 he with h6|h6
     ·exact hm e h6
     ·obtain rfl:=List.mem_singleton.1 h6
      exact⟨i,rfl,hW.symm⟩
    ·refine .inr ⟨_,_,h5,m.set (0+j) (((i:Int),left),out),fun e he=>?_,by simp[qb,List.map_set]⟩
     rcases List.mem_or_eq_of_mem_set he with h6|rfl
     ·exact hm e h6
     ·exact⟨i,rfl,hW.symm⟩
   refine go_loop (fun x:Nat×Part×xk=>adF i left (.bO 2 0) (.bO 3 0) (.slice none 3 ((nth LL i).map Ch.row)) (nth LL i).length x.1 [.bool false,i64 0,i64 0,i64 0] (iV x.2.1) (gl 218 LL x.2.2))
    (fun x=>x.1≤(nth LL i).length∧oT (jg (LL.drop (i+1))) left ((nth LL i).drop x.1) x.2.1=W∧uN LL x.2.2) (fun x=>(nth LL i).length-x.1) (0,none,m) rfl (by simp[gl,iV]) ⟨by omega,by simpa using hW,hm⟩ ?_
   rintro⟨j,out,m⟩ ⟨hj,hq,hm⟩;simp only at hj hq hm;simp (disch:=omega) [-getElem?_pos,wrap64,S8,gl];refine b9 (fun h2=>?_) (fun h2=>?_)
   ·have h2:j<(nth LL i).length:=by omega
    have a1:=hL.cq i j bG h2;have a2:=hL.je i j bG h2;have a3:=hL.jf i j bG h2;rw[sI h2,oT]at hq;have gt:=bo h2;simp (disch:=omega) [-getElem?_pos,wrap64,gt];refine b9 (fun h3=>?_) (fun h3=>?_)
    ·rw[if_pos h3]at hq
     rcases uD out m hq hm with⟨g1,m2,g2,g3⟩ | ⟨j2,v2,g1,m2,g2,g3⟩
     ·have:=hQ m2 g2
      cases nF:W with
      |none =>
       rw[hq]at g3;rw[nF]at this g3;simp only[gl,← g3,lK,iV]at this;simp (disch:=omega) [-getElem?_pos,wrap64,hq,nF,iV,lC,g1];exact this
      |some q =>
       obtain⟨p,s,f⟩:=q;rw[hq]at g3;rw[nF]at this g3;simp only[gl,← g3,lK,iV]at this;simp (disch:=omega) [-getElem?_pos,wrap64,hq,nF,iV,lC,g1];exact this
     ·have:=hQ m2 g2
      cases nF:W with
      |none =>
       rw[hq]at g3;rw[nF]at this g3;simp only[gl,← g3,lK,iV]at this;simp (disch:=omega) [-getElem?_pos,wrap64,hq,nF,iV,lC,g1];exact this
      |some q =>
       obtain⟨p,s,f⟩:=q;rw[hq]at g3;rw[nF]at this g3;simp only[gl,← g3,lK,iV]at this;simp (disch:=omega) [-getElem?_pos,wrap64,hq,nF,iV,lC,g1];exact this
    ·obtain⟨m',hI,sD⟩:=ih (i+1) (left-(nth (nth LL i) j).cq) m (by omega) (by omega) (by omega) (by omega) hm
     have hp:=hL.pb (i+1) (left-(nth (nth LL i) j).cq);rw[if_neg h3]at hq;unfold c7 at hq;simp only[gl]at hI
     push_cast at hI
     cases hb:jg (LL.drop (i+1)) (left-(nth (nth LL i) j).cq) with
     |none =>
      rw[hb]at hI hp hq;simp only[lK,iV]at hI;simp only at hq;simp (disch:=omega) [-getElem?_pos,wrap64,hI];exact cc (j+1,out,m') (by simp[gl]) ⟨by omega,hq,sD⟩ (by simp;omega)
     |some q =>
      obtain⟨p,s,f⟩:=q;rw[hb]at hI hp hq;simp only[lK,iV]at hI;simp only at hq;simp only[pb]at hp;have hB:=fun a b=>ag0 a b [] [] (by simp) []
      simp only[ints,List.map_nil]at hB;cases out with
      |none =>
       simp only at hq;simp (disch:=omega) [-getElem?_pos,wrap64,hI,iV];exact cc (j+1,some (p+(nth (nth LL i) j).je,s+(nth (nth LL i) j).jf,(nth (nth LL i) j).cq),m') (by simp[gl,iV]) ⟨by omega,hq,sD⟩ (by simp;omega)
      |some o =>
       obtain⟨p',s',f'⟩:=o;simp only at hq;by_cases B5:jE (p+(nth (nth LL i) j).je,s+(nth (nth LL i) j).jf) (p',s') [] []
       ·rw[if_pos B5]at hq
        have hB:=hB (p+(nth (nth LL i) j).je,s+(nth (nth LL i) j).jf) (p',s');simp (disch:=omega) [-getElem?_pos,wrap64,hI,iV,hB,B5];exact cc (j+1,some (p+(nth (nth LL i) j).je,s+(nth (nth LL i) j).jf,(nth (nth LL i) j).cq),m') (by simp[gl,iV]) ⟨by omega,hq,sD⟩ (by simp;omega)
       ·rw[if_neg B5]at hq
        have hB:=hB (p+(nth (nth LL i) j).je,s+(nth (nth LL i) j).jf) (p',s');simp (disch:=omega) [-getElem?_pos,wrap64,hI,iV,hB,B5];exact cc (j+1,some (p',s',f'),m') (by simp[gl,iV]) ⟨by omega,hq,sD⟩ (by simp;omega)
   ·obtain rfl:j=(nth LL i).length:=by omega
    rw[List.drop_length,oT]at hq;rcases uD out m hq hm with⟨g1,m2,g2,g3⟩ | ⟨j2,v2,g1,m2,g2,g3⟩
    ·have:=hQ m2 g2
     cases nF:W with
     |none =>
      rw[hq]at g3;rw[nF]at this g3;simp only[gl,← g3,lK,iV]at this;simp (disch:=omega) [-getElem?_pos,wrap64,hq,nF,iV,lC,g1];exact this
     |some q =>
      obtain⟨p,s,f⟩:=q;rw[hq]at g3;rw[nF]at this g3;simp only[gl,← g3,lK,iV]at this;simp (disch:=omega) [-getElem?_pos,wrap64,hq,nF,iV,lC,g1];exact this
    ·have:=hQ m2 g2
     cases nF:W with
     |none =>
      rw[hq]at g3;rw[nF]at this g3;simp only[gl,← g3,lK,iV]at this;simp (disch:=omega) [-getElem?_pos,wrap64,hq,nF,iV,lC,g1];exact this
     |some q =>
      obtain⟨p,s,f⟩:=q;rw[hq]at g3;rw[nF]at this g3;simp only[gl,← g3,lK,iV]at this;simp (disch:=omega) [-getElem?_pos,wrap64,hq,nF,iV,lC,g1];exact this
  ·cases hb:jg (LL.drop i) left with
   |none =>
    rw[hb]at hf hQ;simp only[lK,iV]at hf;simp (disch:=omega) [-getElem?_pos,wrap64,Bo,gl,tQ,lC,hf];exact hQ m hm
   |some q =>
    obtain⟨p,s,f⟩:=q;rw[hb]at hf hQ;simp only[lK,iV]at hf;simp (disch:=omega) [-getElem?_pos,wrap64,Bo,gl,tQ,lC,hf];exact hQ m hm
noncomputable def D8(g:Int)(u:Un)(s:Us):List Ch:=(pt u s g).map fun q=>⟨q,pow u q,iu s q⟩
noncomputable def iW(us:List Un)(ss:List Us)(g:Int):List (List Ch):=List.zipWith (D8 g) us ss
theorem ag6(us:List Un)(ss:List Us)(g:Int):List.zipWith (D6 g) us ss=(iW us ss g).map Mx:=by
 rw[iW,List.map_zipWith];congr 1;funext u s;simp[D8,D6,Mx]
theorem MA{u:Un}{g:Int}(h:gA u g=0):(fj u g).length≤200:=by
 unfold gA at h;split at h
 ·contradiction
 ·split at h
  ·cases h
  ·split at h
   ·cases h
   ·omega
theorem ag7{u:Un}{s:Us}{g:Int}(h:gA u g=0):(pt u s g).length≤202:=by
 have h1:=MA h;have h2:=A2 (mH (fj u g++[0,s.cq]));have h3:=(xd (fj u g++[0,s.cq])).length_eq;have h4:(pt u s g).length≤(dedup (mH (fj u g++[0,s.cq]))).length:=List.length_filter_le _ _;simp at h3;omega
structure Hg(us:List Un)(ss:List Us)(g:Int):Prop where
 kc:us.length≤6
 len:us.length=ss.length
 valid:y6 us ss
 ao6:1≤g∧g≤1073741824
 TH:y7 us g
theorem MB{us:List Un}{ss:List Us}{g release:Int}(h:px us ss g release=0):Hg us ss g∧(0≤release∧release≤1073741824)∧release≤200*g:=by
 unfold px at h;split at h
 ·cases h
 ·split at h
  ·cases h
  ·split at h
   ·cases h
   ·split at h
    ·cases h
    ·split at h
     ·cases h
     ·split at h
      ·cases h
      ·rename_i h1 h2 h3 h4 h5 h6
       exact⟨⟨by omega,Decidable.of_not_not h2,Decidable.of_not_not h3,by omega,Decidable.of_not_not h6⟩,by omega,by omega⟩
theorem MC{us:List Un}{ss:List Us}{g:Int}(h:us.length=ss.length):(iW us ss g).length=us.length:=by simp[iW,h]
theorem uO{α β:Type}[Inhabited α][Inhabited β]{f:α→β}{l:List α}{i:Nat}(h:i<l.length):nth (l.map f) i=f (nth l i):=by
 simp[nth,h]
theorem Bw{α β γ:Type}[Inhabited α][Inhabited β][Inhabited γ]{f:α→β→γ}{a:List α}{b:List β}{i:Nat}(h1:i<a.length)(h2:i<b.length):nth (List.zipWith f a b) i=f (nth a i) (nth b i):=by
 simp[nth,List.getElem?_zipWith,h1,h2]
theorem rZ{α:Type}[Inhabited α]{l:List α}{i:Nat}(h:i<l.length):nth l i∈l:=List.mem_of_getElem? (bo h)
theorem TI{us:List Un}{ss:List Us}{g:Int}(h:Hg us ss g):Lb (iW us ss g):=by
 have hl:=h.len;have e:∀i,i<(iW us ss g).length→nth (iW us ss g) i=D8 g (nth us i) (nth ss i):=fun i hi=>by
  rw[MC hl]at hi;exact Bw hi (by omega)
 have c:∀i j,i<(iW us ss g).length→j<(nth (iW us ss g) i).length→∃q,js (nth us i) (nth ss i) q∧nth (nth (iW us ss g) i) j=⟨q,pow (nth us i) q,iu (nth ss i) q⟩:=fun i j hi hj=>by
  rw[e i hi]at hj ⊢;have sd:j<(pt (nth us i) (nth ss i) g).length:=by simpa [D8] using hj
  refine⟨nth (pt (nth us i) (nth ss i) g) j,?_,uO sd⟩;have:=rZ sd;simp only[pt,List.mem_filter,decide_eq_true_eq]at this;exact this.2
 refine⟨by rw[MC hl];exact h.kc,fun i hi=>?_,fun i j hi hj=>?_,fun i j hi hj=>?_,fun i j hi hj=>?_⟩
 ·rw[e i hi]
  rw[MC hl]at hi;have:=ag7 (s:=nth ss i) (h.TH i hi);simp[D8];omega
 ·obtain⟨q,h1,h2⟩:=c i j hi hj
  rw[h2];exact Hc h1
 ·obtain⟨q,h1,h2⟩:=c i j hi hj
  rw[h2];exact Hd
 ·obtain⟨q,h1,h2⟩:=c i j hi hj
  rw[h2];exact Mv
noncomputable def jY(us:List Un)(ss:List Us)(g release:Int):Int:=if px us ss g release≠0 then px us ss g release else if l8 (iW us ss g) release=none then 9 else 0
noncomputable def g7(us:List Un)(ss:List Us)(g release:Int):List Int:=if px us ss g release≠0 then [] else (l8 (iW us ss g) release).getD []
theorem TJ{LL:List (List Ch)}:∀{l:List Ch} {rest:Int→Part} {left:Int} {out:Part} {p s f:Int},(∀q t e,out=some (q,t,e)→e≤left)→oT rest left l out=some (p,s,f)→f≤left
 |[],rest,left,out,p,s,f,h,he=>h _ _ _ (by simpa [oT] using he)
 |c::cs,rest,left,out,p,s,f,h,he=>by
  unfold oT at he;split at he
  ·exact h _ _ _ he
  ·refine TJ (LL:=LL) (fun q t e hq=>?_) he
   unfold c7 at hq;split at hq
   ·exact h _ _ _ hq
   ·split at hq
    ·cases hq;omega
    ·split at hq
     ·cases hq;omega
     ·cases hq;exact h _ _ _ rfl
theorem ag8(us:List Un)(ss:List Us)(g release:Int):∃G',bt F 206 [jX us,jD ss,i64 g,i64 release] []=some (.tuple [own (g7 us ss g release),i64 (jY us ss g release)],G'):=by
 suffices h:∀Q:V→List aW→Prop,(∀G,Q (.tuple [own (g7 us ss g release),i64 (jY us ss g release)]) G)→jq (bt F) 206 [jX us,jD ss,i64 g,i64 release] [] Q by
  obtain⟨_,_,h,rfl⟩:=h (fun v _=>v=.tuple [own (g7 us ss g release),i64 (jY us ss g release)]) fun _=>rfl;exact⟨_,h⟩
 intro Q hQ;refine jV rfl rfl ?_;have hS:=ag3 us ss g release [];by_cases h0:px us ss g release=0
 ·rw[h0,if_pos rfl,ag6]at hS
  obtain⟨h1,h2,h3⟩:=MB h0;have hL:=TI h1;have eL:g7 us ss g release=(l8 (iW us ss g) release).getD []:=by simp[g7,h0]
  have eE:jY us ss g release=if l8 (iW us ss g) release=none then 9 else 0:=by simp[jY,h0]
  rw[eL,eE]at hQ;have Bs:=hL.kc;generalize hLL:iW us ss g=LL at *;simp (disch:=omega) [wrap64,GO,hS];refine go_loop (fun x:List Int×Int×xk=>ads (.bO 0 0) (.bO 3 0) (.slice (some 1048) 1 (x.1.map fun n=>[i64 n])) x.2.1 x.1.length (gl 218 LL x.2.2))
   (fun x=>x.1.length≤LL.length∧(0≤x.2.1∧x.2.1≤1073741824)∧(l8 (LL.drop x.1.length) x.2.1).map (x.1 ++ ·)=l8 LL release∧uN LL x.2.2) (fun x=>LL.length-x.1.length) ([],release,[]) rfl (by simp[gl,qb]) ⟨by simp,by simpa using h2,by simp,fun e he=>by simp at he⟩ ?_
  rintro⟨fs,left,m⟩ ⟨i1,i2,i3,i4⟩;simp only at i1 i2 i3 i4;simp (disch:=omega) [wrap64,SZ,gl];refine b9 (fun h4=>?_) (fun h4=>?_)
  ·have h4:fs.length<LL.length:=by omega
   obtain⟨m',hI,sD⟩:=ag5 hL (LL.length-fs.length) fs.length left m rfl i1 i2.1 i2.2 i4;have hp:=hL.pb fs.length left;have hd:LL.drop fs.length=nth LL fs.length::LL.drop (fs.length+1):=sI h4;rw[hd,l8,← hd]at i3;cases hb:jg (LL.drop fs.length) left with
   |none =>
    rw[hb]at hI i3;simp only[lK,iV,gl]at hI;simp only[Option.map_none]at i3;rw[←i3]at hQ;simp only[if_true,Option.getD_none]at hQ;simp (disch:=omega) [wrap64,hI];exact hQ _
   |some q =>
    obtain⟨p,s,f⟩:=q;rw[hb]at hI i3 hp;have hf:f≤left:=by
     rw[Mz h4]at hb;exact TJ (LL:=LL) (fun q t e hq=>by cases hq) hb
    simp only[lK,iV,gl]at hI;simp only[pb]at hp;simp only at i3;simp (disch:=omega) [wrap64,hI];refine cc (fs++[f],left-f,m') (by simp[gl]) ⟨by simp;omega,by simp;omega,?_,sD⟩ (by simp;omega)
    rw[←i3];simp[Function.comp_def]
  ·have e:fs.length=LL.length:=by omega
   rw[e,List.drop_length,l8]at i3;simp only[Option.map_some,List.append_nil]at i3;rw[←i3]at hQ;simpa using hQ _
 ·rw[if_neg h0]at hS
  have eL:g7 us ss g release=[]:=by simp[g7,h0]
  have eE:jY us ss g release=px us ss g release:=by simp[jY,h0]
  rw[eL,eE]at hQ;simp (disch:=omega) [wrap64,GO,hS,h0];exact hQ _
end Go.Proofs.YtmpikpodpgnjhaaGreat
namespace Go.Proofs.YtmpikpodpgnjhaaGreat
set_option linter.all false
open Go.Vm
def tR(a b:Int×Int):Prop:=b.1<a.1∨(a.1=b.1∧a.2<b.2)
theorem vV{a b:Int×Int}{p q:List Int}:jE a b p q↔tR a b∨(a.1=b.1∧a.2=b.2∧gq p q<0):=by
 unfold jE tR;split
 ·omega
 ·split<;>omega
theorem aha{a:Int}{p q:List Int}:gq (a::p) (a::q)=gq p q:=by simp[gq]
theorem ahb{a b:Int}{p q:List Int}(h:b<a):¬gq (a::p) (b::q)<0:=by
 simp only[gq];rw[if_neg (by omega),if_pos h]
 omega
def sJ:List (List Ch)→List Ch→Prop
 |[],[]=>True
 |l::ls,c::P=>c∈l∧sJ ls P
 |_,_=>False
def sF(P:List Ch):Int:=(P.map Ch.cq).sum
def sP(P:List Ch):Int:=(P.map Ch.je).sum
def sS(P:List Ch):Int:=(P.map Ch.jf).sum
theorem ahc{LL:List (List Ch)}:∀{P:List Ch},(∀l∈LL,∀c∈l,0≤c.cq)→sJ LL P→0≤sF P:=by
 induction LL with
 |nil=>intro P _ hp;cases P with
  |nil=>simp[sF]
  |cons c P=>exact hp.elim
 |cons l ls ih =>
  intro P h hp;cases P with
  |nil=>exact hp.elim
  |cons c P =>
   have h1:=ih (fun l hl=>h l (by simp[hl])) hp.2
   have h2:=h l (by simp) c hp.1
   simp only[sF,List.map_cons,List.sum_cons]at h1 ⊢;omega
structure Top(LL:List (List Ch))(left:Int)(P:List Ch):Prop where
 y8:sJ LL P
 sum:sF P≤left
 best:∀Q,sJ LL Q→sF Q≤left→¬jE (sP Q,sS Q) (sP P,sS P) (Q.map Ch.cq) (P.map Ch.cq)
structure Jn(ls:List (List Ch))(left:Int)(pre:List Ch)(p s f:Int)(c:Ch)(P:List Ch):Prop where
 mem:c∈pre
 cq:c.cq=f
 y8:sJ ls P
 sum:c.cq+sF P≤left
 je:c.je+sP P=p
 jf:c.jf+sS P=s
 rest:l8 ls (left-f)=some (P.map Ch.cq)
 best:∀d∈pre,∀Q,sJ ls Q→d.cq+sF Q≤left→¬jE (d.je+sP Q,d.jf+sS Q) (p,s) (d.cq::Q.map Ch.cq) (c.cq::P.map Ch.cq)
def J(ls:List (List Ch))(left:Int)(pre:List Ch):Part→Prop
 |none=>∀c∈pre,∀Q,sJ ls Q→left<c.cq+sF Q
 |some (p,s,f)=>∃c P,Jn ls left pre p s f c P
theorem TK{ls:List (List Ch)}{left:Int}{pre:List Ch}{out:Part}{l:List Ch}(h:J ls left pre out)(hn:∀c∈l,∀Q,sJ ls Q→left<c.cq+sF Q):J ls left (pre++l) out:=by
 cases out with
 |none =>
  intro c hc Q hQ;rcases List.mem_append.1 hc with h1|h1
  ·exact h c h1 Q hQ
  ·exact hn c h1 Q hQ
 |some q =>
  obtain⟨p,s,f⟩:=q;obtain⟨c,P,j⟩:=h;refine⟨c,P,⟨by simp[j.mem],j.cq,j.y8,j.sum,j.je,j.jf,j.rest,fun d hd Q hQ hs=>?_⟩⟩
  rcases List.mem_append.1 hd with h1|h1
  ·exact j.best d h1 Q hQ hs
  ·have:=hn d h1 Q hQ
   omega
def Good(ls:List (List Ch)):Prop:=∀left,0≤left→match jg ls left with
 |none=>∀Q,sJ ls Q→left<sF Q
 |some (p,s,_)=>∃P,Top ls left P∧sP P=p∧sS P=s∧l8 ls left=some (P.map Ch.cq)
theorem ahf{ls:List (List Ch)}(hg:Good ls){left:Int}{pre:List Ch}{out:Part}{c:Ch}(h:J ls left pre out)(Hh:∀d∈pre,d.cq<c.cq)(hle:c.cq≤left):J ls left (pre++[c]) (c7 (jg ls) left c out):=by
 have hg:=hg (left-c.cq) (by omega)
 unfold c7;cases hb:jg ls (left-c.cq) with
 |none =>
  rw[hb]at hg;exact TK h fun d hd Q hQ=>by
   obtain rfl:=List.mem_singleton.1 hd;have:=hg Q hQ;omega
 |some q =>
  obtain⟨p0,s0,f0⟩:=q;rw[hb]at hg;obtain⟨P0,t,rfl,rfl,e0⟩:=hg;have new:∀d∈[c],∀Q,sJ ls Q→d.cq+sF Q≤left→¬jE (d.je+sP Q,d.jf+sS Q) (sP P0+c.je,sS P0+c.jf) (d.cq::Q.map Ch.cq) (c.cq::P0.map Ch.cq):=by
   intro d hd Q hQ hs tT;obtain rfl:=List.mem_singleton.1 hd;refine t.best Q hQ (by omega) ?_
   rw[vV]at tT ⊢;rw[aha]at tT;unfold tR at tT ⊢;simp only at tT ⊢;omega
  have ts:=t.sum;cases out with
  |none =>
   simp only;refine⟨c,P0,⟨by simp,rfl,t.y8,by omega,by omega,by omega,e0,fun d hd Q hQ hs=>?_⟩⟩
   rcases List.mem_append.1 hd with h1|h1
   ·have:=h d h1 Q hQ;omega
   ·exact new d h1 Q hQ hs
  |some o =>
   obtain⟨p,s,f⟩:=o;obtain⟨c1,P1,j⟩:=h;simp only;split
   ·rename_i tT
    rw[vV]at tT;have hv:tR (sP P0+c.je,sS P0+c.jf) (p,s):=by
     rcases tT with h|h
     ·exact h
     ·simp[gq]at h
    unfold tR at hv;simp only at hv;refine⟨c,P0,⟨by simp,rfl,t.y8,by omega,by omega,by omega,e0,fun d hd Q hQ hs=>?_⟩⟩
    rcases List.mem_append.1 hd with h1|h1
    ·have:=j.best d h1 Q hQ hs
     rw[vV]at this ⊢;unfold tR at this ⊢;simp only at this ⊢;omega
    ·exact new d h1 Q hQ hs
   ·rename_i tT
    rw[vV]at tT;unfold tR at tT;simp only at tT;refine⟨c1,P1,⟨by simp[j.mem],j.cq,j.y8,j.sum,j.je,j.jf,j.rest,fun d hd Q hQ hs=>?_⟩⟩
    rcases List.mem_append.1 hd with h1|h1
    ·exact j.best d h1 Q hQ hs
    ·have h2:=new d h1 Q hQ hs
     obtain rfl:=List.mem_singleton.1 h1;have h3:=ahb (p:=Q.map Ch.cq) (q:=P1.map Ch.cq) (Hh c1 j.mem);rw[vV]at h2 ⊢;unfold tR at h2 ⊢;simp only at h2 ⊢;omega
theorem TL{ls:List (List Ch)}(hg:Good ls)(h0:∀l∈ls,∀c∈l,0≤c.cq){left:Int}:∀{cs pre:List Ch} {out:Part},(pre++cs).Pairwise (fun a b=>a.cq<b.cq)→J ls left pre out→J ls left (pre++cs) (oT (jg ls) left cs out)
 |[],pre,out,_,h=>by simpa [oT] using h
 |c::cs,pre,out,hp,h=>by
  have vd:=List.pairwise_append.1 hp;unfold oT;split
  ·rename_i bG
   refine TK h fun d hd Q hQ=>?_;have:=ahc h0 hQ;rcases List.mem_cons.1 hd with rfl|h1
   ·omega
   ·have:=(List.pairwise_cons.1 vd.2.1).1 d h1
    omega
  ·have h1:=ahf hg h (c:=c) (fun d hd=>vd.2.2 d hd c (by simp)) (by omega)
   have h2:=TL hg h0 (cs:=cs) (pre:=pre++[c]) (by simpa using hp) h1
   simpa using h2
def TM(LL:List (List Ch)):Prop:=∀l∈LL,l.Pairwise fun a b=>a.cq<b.cq
theorem TN:∀{LL:List (List Ch)},(∀l∈LL,∀c∈l,0≤c.cq)→TM LL→Good LL
 |[],_,_=>fun left h0=>by
  simp only[jg];refine⟨[],⟨trivial,by simpa [sF] using h0,fun Q hQ _=>?_⟩,rfl,rfl,rfl⟩
  cases Q with
  |nil=>simp[jE,gq]
  |cons c Q=>exact hQ.elim
 |l::ls,h0,ha=>fun left qx=>by
  have hg:Good ls:=TN (fun l hl=>h0 l (by simp[hl])) (fun l hl=>ha l (by simp[hl]))
  have hj:=TL hg (fun l hl=>h0 l (by simp[hl])) (left:=left) (cs:=l) (pre:=[]) (out:=none) (by simpa using ha l (by simp)) (fun c hc=>by simp at hc)
  simp only[List.nil_append]at hj;have e:jg (l::ls) left=oT (jg ls) left l none:=rfl;rw[e];cases hb:oT (jg ls) left l none with
  |none =>
   rw[hb]at hj;intro Q hQ;cases Q with
   |nil=>exact hQ.elim
   |cons c Q =>
    have:=hj c hQ.1 Q hQ.2;simpa [sF] using this
  |some q =>
   obtain⟨p,s,f⟩:=q;rw[hb]at hj;obtain⟨c,P,j⟩:=hj;have j4:=j.sum;have j5:=j.je;have j6:=j.jf;refine⟨c::P,⟨⟨j.mem,j.y8⟩,by simpa [sF] using j4,fun Q hQ hs=>?_⟩,by simpa [sP] using j5,by simpa [sS] using j6,?_⟩
   ·cases Q with
    |nil=>exact hQ.elim
    |cons d Q =>
     have:=j.best d hQ.1 Q hQ.2 (by simpa [sF] using hs)
     have e1:sP (c::P)=p:=by simpa [sP] using j5
     have e2:sS (c::P)=s:=by simpa [sS] using j6
     rw[e1,e2];simpa [sP,sS] using this
   ·rw[l8,e,hb]
    simp only;rw[j.rest];simp[j.cq]
end Go.Proofs.YtmpikpodpgnjhaaGreat
namespace Go.Proofs.YtmpikpodpgnjhaaGreat
set_option linter.all false
open Go.Vm
theorem MD{x:Int}:∀{l:List Int},x∈dedup l↔x∈l
 |[]=>Iff.rfl
 |[a]=>Iff.rfl
 |a::b::r=>by
  have ih:=MD (x:=x) (l:=b::r);unfold dedup;by_cases h:a=b
  ·simp only[h,beq_self_eq_true,cond_true,ih]
   simp
  ·have h':(a==b)=false:=by simpa using h
   simp only[h',cond_false,List.mem_cons,ih]
theorem TQ:∀{l:List Int},l.Pairwise (· ≤ ·)→(dedup l).Pairwise (· < ·)
 |[],_=>.nil
 |[a],_=>by simp[dedup]
 |a::b::r,h=>by
  obtain⟨h1,h2⟩:=List.pairwise_cons.1 h;have ih:=TQ h2;unfold dedup;by_cases qf:a=b
  ·simp only[qf,beq_self_eq_true,cond_true]
   exact ih
  ·have h':(a==b)=false:=by simpa using qf
   simp only[h',cond_false,List.pairwise_cons];refine⟨fun x hx=>?_,ih⟩;rw[MD]at hx;have h3:=h1 b (by simp)
   rcases List.mem_cons.1 hx with rfl|h4
   ·omega
   ·have:=(List.pairwise_cons.1 h2).1 x h4
    omega
theorem Bx{u:Un}{s:Us}{g q:Int}:q∈pt u s g↔(q∈fj u g∨q=0∨q=s.cq)∧js u s q:=by
 simp only[pt,List.mem_filter,MD,(xd _).mem_iff,decide_eq_true_eq,List.mem_append,List.mem_cons,List.not_mem_nil,or_false]
theorem ahh{u:Un}{s:Us}{g:Int}:(pt u s g).Pairwise (· < ·):=(TQ (Ku _)).filter _
def lL(g:Int):List Un→List Us→List Int→Prop
 |u::us,s::ss,q::F=>q∈pt u s g∧lL g us ss F
 |[],[],[]=>True
 |_,_,_=>False
noncomputable def iA:List Un→List Int→Int
 |u::us,q::F=>pow u q+iA us F
 |_,_=>0
def iB:List Us→List Int→Int
 |s::ss,q::F=>iu s q+iB ss F
 |_,_=>0
noncomputable def sK:List Un→List Us→List Int→List Ch
 |u::us,s::ss,q::F=>⟨q,pow u q,iu s q⟩::sK us ss F
 |_,_,_=>[]
theorem y9{g:Int}:∀{us:List Un} {ss:List Us} {F:List Int},lL g us ss F→F.length=us.length∧F.length=ss.length
 |[],[],[],_=>⟨rfl,rfl⟩
 |_::_,_::_,_::_,h=>by have:=y9 h.2;simp;omega
 |[],_::_,_,h=>h.elim
 |[],[],_::_,h=>h.elim
 |_::_,[],_,h=>h.elim
 |_::_,_::_,[],h=>h.elim
theorem Hj{g:Int}:∀{us:List Un} {ss:List Us} {F:List Int},lL g us ss F→sJ (iW us ss g) (sK us ss F)∧(sK us ss F).map Ch.cq=F∧sF (sK us ss F)=F.sum∧sP (sK us ss F)=iA us F∧sS (sK us ss F)=iB ss F
 |[],[],[],_=>⟨trivial,rfl,rfl,rfl,rfl⟩
 |u::us,s::ss,q::F,h=>by
  obtain⟨h1,h2,h3,h4,h5⟩:=Hj h.2;refine⟨⟨List.mem_map.2 ⟨q,h.1,rfl⟩,h1⟩,by simp[sK,h2],?_,?_,?_⟩
  ·simp only[sF]at h3 ⊢;simp[sK,h3]
  ·simp only[sP]at h4 ⊢;simp[sK,iA,h4]
  ·simp only[sS]at h5 ⊢;simp[sK,iB,h5]
 |[],_::_,_,h=>h.elim
 |[],[],_::_,h=>h.elim
 |_::_,[],_,h=>h.elim
 |_::_,_::_,[],h=>h.elim
theorem TR{g:Int}:∀{us:List Un} {ss:List Us} {P:List Ch},us.length=ss.length→sJ (iW us ss g) P→lL g us ss (P.map Ch.cq)∧P=sK us ss (P.map Ch.cq)
 |[],[],[],_,_=>⟨trivial,rfl⟩
 |[],[],_::_,_,h=>h.elim
 |[],_::_,_,h,_=>by simp at h
 |_::_,[],_,h,_=>by simp at h
 |_::_,_::_,[],_,h=>h.elim
 |u::us,s::ss,c::P,hl,h=>by
  obtain⟨h1,h2⟩:=TR (by simpa using hl) h.2
  obtain⟨q,hq,rfl⟩:=List.mem_map.1 h.1;exact⟨⟨hq,h1⟩,by simp[sK];exact h2⟩
structure zA(g:Int)(us:List Un)(ss:List Us)(left:Int)(F:List Int):Prop where
 lL:lL g us ss F
 sum:F.sum≤left
 best:∀E,Go.Proofs.YtmpikpodpgnjhaaGreat.lL g us ss E→E.sum≤left→¬jE (iA us E,iB ss E) (iA us F,iB ss F) E F
theorem TS{g:Int}:∀{us:List Un} {ss:List Us},TM (iW us ss g)
 |[],_=>fun l hl=>by simp[iW]at hl
 |_::_,[]=>fun l hl=>by simp[iW]at hl
 |u::us,s::ss=>fun l hl=>by
  rcases List.mem_cons.1 hl with rfl|h
  ·exact List.pairwise_map.2 ahh
  ·exact TS (us:=us) (ss:=ss) l h
theorem TT{us:List Un}{ss:List Us}{g left:Int}(hs:Hg us ss g)(h0:0≤left) :
  match l8 (iW us ss g) left with
  |none=>∀F,lL g us ss F→left<F.sum
  |some F=>zA g us ss left F:=by
 have hL:=TI hs;have hn:∀l∈iW us ss g,∀c∈l,0≤c.cq:=fun l hl c hc=>(hL.all l hl c hc).1;have hg:=TN hn TS;have yd:=hg left h0;cases hb:jg (iW us ss g) left with
 |none =>
  rw[hb]at yd;have e:l8 (iW us ss g) left=none:=by
   cases hl:iW us ss g with
   |nil=>rw[hl]at hb;simp[jg]at hb
   |cons l ls=>rw[l8,← hl,hb]
  rw[e];intro F hF;obtain⟨h1,_,h3,_⟩:=Hj hF;have:=yd _ h1;omega
 |some q =>
  obtain⟨p,s,f⟩:=q;rw[hb]at yd;obtain⟨P,t,_,_,e⟩:=yd;rw[e];obtain⟨h1,h2⟩:=TR hs.len t.y8;obtain⟨_,_,h3,h4,h5⟩:=Hj h1;rw[←h2]at h3 h4 h5;refine⟨h1,by have:=t.sum;omega,fun E hE hs=>?_⟩
  obtain⟨e1,e2,e3,e4,e5⟩:=Hj hE;have:=t.best _ e1 (by omega)
  rwa [e2,e4,e5,h4,h5]at this
theorem TU:∀{p q:List Int},p.length=q.length→(gq p q<0∨gq q p<0∨p=q)
 |[],[],_=>.inr (.inr rfl)
 |[],_::_,h=>by simp at h
 |_::_,[],h=>by simp at h
 |a::p,b::q,h=>by
  have ih:=TU (p:=p) (q:=q) (by simpa using h)
  simp only[gq];rcases Int.lt_trichotomy a b with h1|h1|h1
  ·left;simp[h1]
  ·subst h1
   simp only[Int.lt_irrefl,if_false];rcases ih with h2|h2|h2
   ·exact .inl h2
   ·exact .inr (.inl h2)
   ·exact .inr (.inr (by rw[h2]))
  ·right;left;simp[h1]
theorem ahi{a b:Int×Int}{p q:List Int}(h:p.length=q.length):jE a b p q∨jE b a q p∨(a=b∧p=q):=by
 rw[vV,vV];unfold tR;obtain⟨a1,a2⟩:=a;obtain⟨b1,b2⟩:=b;rcases TU h with h1|h1|h1
 ·simp only[Prod.mk.injEq];omega
 ·simp only[Prod.mk.injEq];omega
 ·simp only[Prod.mk.injEq,h1,and_true];omega
theorem zA.unique{g:Int}{us:List Un}{ss:List Us}{left:Int}{F E:List Int}(h:zA g us ss left F)(h':zA g us ss left E):F=E:=by
 have l1:=y9 h.lL;have l2:=y9 h'.lL;rcases ahi (a:=(iA us F,iB ss F)) (b:=(iA us E,iB ss E)) (p:=F) (q:=E) (by omega) with h1|h1|h1
 ·exact absurd h1 (h'.best F h.lL h.sum)
 ·exact absurd h1 (h.best E h'.lL h'.sum)
 ·exact h1.2
theorem TV{g:Int}:∀{us:List Un} {ss:List Us} {F:List Int} {a b c:Int},lL g us ss F→vQ us ss F (a,b,c)=some (a+F.sum,b+iA us F,c+iB ss F)
 |[],[],[],a,b,c,_=>by simp[vQ,iA,iB]
 |u::us,s::ss,q::F,a,b,c,h=>by
  rw[vQ,if_pos (Bx.1 h.1).2,TV h.2];simp only[List.sum_cons,iA,iB,Option.some.injEq,Prod.mk.injEq];omega
 |[],_::_,_,_,_,_,h=>h.elim
 |[],[],_::_,_,_,_,h=>h.elim
 |_::_,[],_,_,_,_,h=>h.elim
 |_::_,_::_,[],_,_,_,h=>h.elim
theorem TW{g:Int}{us:List Un}{ss:List Us}{F:List Int}(h:lL g us ss F):y5 us ss F=some (F.sum,iA us F,iB ss F):=by
 have l:=y9 h;rw[y5,if_pos (by omega),TV h]
 simp
end Go.Proofs.YtmpikpodpgnjhaaGreat
namespace Go.Proofs.YtmpikpodpgnjhaaGreat
set_option linter.all false
open Go.Vm
theorem T6:∀{p q:List Int},gq p q<0→¬gq q p<0
 |[],[],h=>by simp[gq]at h
 |[],_::_,_=>by simp[gq]
 |_::_,[],h=>by simp[gq]at h
 |a::p,b::q,h=>by
  have ih:=T6 (p:=p) (q:=q);simp only[gq]at h ⊢;rcases Int.lt_trichotomy a b with h1|h1|h1
  ·rw[if_neg (by omega),if_pos h1];omega
  ·subst h1
   simp only[Int.lt_irrefl,if_false]at h ⊢;exact ih h
  ·rw[if_neg (by omega),if_pos h1]at h;omega
theorem T7:∀{p q r:List Int},gq p q<0→gq q r<0→gq p r<0
 |[],[],_,h,_=>by simp[gq]at h
 |_::_,[],_,h,_=>by simp[gq]at h
 |_,_::_,[],_,h=>by simp[gq]at h
 |[],_::_,_::_,_,_=>by simp[gq]
 |a::p,b::q,c::r,h,h'=>by
  have ih:=T7 (p:=p) (q:=q) (r:=r);simp only[gq]at h h' ⊢;rcases Int.lt_trichotomy a b with h1|h1|h1
  ·rcases Int.lt_trichotomy b c with h2|h2|h2
   ·rw[if_pos (by omega)];omega
   ·rw[if_pos (by omega)];omega
   ·rw[if_neg (by omega),if_pos h2]at h';omega
  ·subst h1
   simp only[Int.lt_irrefl,if_false]at h;rcases Int.lt_trichotomy a c with h2|h2|h2
   ·rw[if_pos h2];omega
   ·subst h2
    simp only[Int.lt_irrefl,if_false]at h' ⊢;exact ih h h'
   ·rw[if_neg (by omega),if_pos h2]at h';omega
  ·rw[if_neg (by omega),if_pos h1]at h;omega
theorem ahn{a b:Int×Int}{p q:List Int}(h:jE a b p q):¬jE b a q p:=by
 rw[vV]at h ⊢;unfold tR at h ⊢;have:=T6 (p:=p) (q:=q);rcases h with h | ⟨h1,h2,h3⟩
 ·omega
 ·have:=this h3;omega
theorem aho{a b c:Int×Int}{p q r:List Int}(h:jE a b p q)(h':jE b c q r):jE a c p r:=by
 rw[vV]at h h' ⊢;unfold tR at h h' ⊢;have:=T7 (p:=p) (q:=q) (r:=r);rcases h with h | ⟨h1,h2,h3⟩
 ·omega
 ·rcases h' with h' | ⟨h4,h5,h6⟩
  ·omega
  ·have:=this h3 h6
   omega
theorem T8{a:Int×Int}{p:List Int}:¬jE a a p p:=fun h=>ahn h h
end Go.Proofs.YtmpikpodpgnjhaaGreat
namespace Go.Proofs.YtmpikpodpgnjhaaGreat
set_option linter.all false
open Go.Vm
attribute [local simp] eU eV eS eT
noncomputable def xm(us:List Un)(ss:List Us)(g:Int):Int :=
 if 6<us.length then 10 else if us.length≠ss.length then 3 else if ¬y6 us ss then 3 else if g<1∨1073741824<g then 1 else 0
theorem ahp(us:List Un)(ss:List Us)(g:Int)(G:List aW):bt F 166 [jX us,jD ss,i64 g] G=some (i64 (xm us ss g),G) :=
 cg rfl rfl (by
  generalize hE:xm us ss g=E;unfold xm at hE;simp +contextual (disch:=omega) [-getElem?_pos,wrap64,Lw];refine b9 (fun h1=>?_) (fun h1=>gT (fun h2=>?_) (fun h2=>?_))
  ·rw[if_pos (by omega)]at hE
   exact hE
  ·simp[-List.length_eq_zero_iff,-Int.natCast_eq_zero]at h2
   rw[if_neg (by omega),if_pos (by omega)]at hE
   exact hE
  ·simp[-List.length_eq_zero_iff,-Int.natCast_eq_zero]at h2
   have hl:us.length=ss.length:=by omega
   rw[if_neg (by omega),if_neg (by omega)]at hE
   refine go_loop (fun i:Nat=>acG (jD ss) g (jX us) us.length i G) (fun i=>i≤us.length∧∀j,j<i→fe (nth us j) (nth ss j)) (fun i=>us.length-i) 0 rfl (by simp) ⟨by omega,by omega⟩ ?_
   rintro i ⟨hi,hv⟩;simp +contextual (disch:=omega) [-getElem?_pos,wrap64,SC];refine b9 (fun h3=>?_) (fun h3=>?_)
   ·have h3:i<us.length:=by omega
    by_cases h4:fe (nth us i) (nth ss i)
    ·simp +contextual (disch:=omega) [-getElem?_pos,wrap64,bo (l:=us),bo (l:=ss),uL,h4]
     refine cc (i+1) (by simp) ⟨by omega,fun j hj=>?_⟩ (by omega)
     rcases Nat.lt_or_ge j i with h5|h5
     ·exact hv j h5
     ·rwa [show j=i by omega]
    ·rw[if_pos (fun h=>h4 (h i h3))]at hE
     simp +contextual (disch:=omega) [-getElem?_pos,wrap64,bo (l:=us),bo (l:=ss),uL,h4];exact hE
   ·obtain rfl:i=us.length:=by omega
    rw[if_neg (fun h=>h hv)]at hE;refine gT (fun h5=>?_) (fun h5=>?_)
    ·simp[-List.length_eq_zero_iff,-Int.natCast_eq_zero]at h5
     rw[if_pos (by omega)]at hE
     exact hE
    ·simp[-List.length_eq_zero_iff,-Int.natCast_eq_zero]at h5
     rw[if_neg (by omega)]at hE
     exact hE)
noncomputable def rF(u:Un)(s:Us)(g:Int):List Int:=([0,s.cq]++fj u g).filter fun q=>decide (js u s q)
theorem T9{u:Un}{s:Us}{g q:Int}:q∈rF u s g↔q∈pt u s g:=by
 rw[Bx];simp only[rF,List.mem_filter,decide_eq_true_eq,List.mem_append,List.mem_cons,List.not_mem_nil,or_false];constructor
 ·rintro⟨(h|h)|h,h2⟩
  ·exact⟨.inr (.inl h),h2⟩
  ·exact⟨.inr (.inr h),h2⟩
  ·exact⟨.inl h,h2⟩
 ·rintro⟨h|h|h,h2⟩
  ·exact⟨.inr h,h2⟩
  ·exact⟨.inl (.inl h),h2⟩
  ·exact⟨.inl (.inr h),h2⟩
theorem ahq{u:Un}{s:Us}{g:Int}(h:gA u g=0):(rF u s g).length≤202:=by
 have h1:=MA h;have:(rF u s g).length≤([0,s.cq]++fj u g).length:=List.length_filter_le _ _;simp at this;omega
theorem ahr{u:Un}{s:Us}(hv:fe u s)(g:Int)(G:List aW):bt F 187 [un u,us s,i64 g] G =
  some (if gA u g=0 then .tuple [.slice (some 0) 1 ((rF u s g).map fun n=>[i64 n]),i64 0] else .tuple [.slice (some 0) 1 [],i64 (gA u g)],G) :=
 cg rfl rfl (by
  by_cases he:gA u g=0
  ·have hlen:=MA he
   have hf:mU u g=fj u g:=by simp[mU,he]
   have hc:rF u s g=(0::s.cq::fj u g).filter fun q=>decide (js u s q):=rfl;rw[if_pos he,hc];generalize hL:(0::s.cq::fj u g)=L;have hLl:L.length=(fj u g).length+2:=by rw[←hL];simp
   have hLm:[i64 0]::[i64 s.cq]::(fj u g).map (fun n=>[i64 n])=L.map fun n=>[i64 n]:=by rw[←hL];rfl
   simp (disch:=omega) [-getElem?_pos,wrap64,GJ,Br,he,hf,hLm];refine go_loop (fun i:Nat=>ac0 (.slice (some 1039) 1 (((L.take i).filter fun q=>decide (js u s q)).map fun n=>[i64 n])) (.slice (some 1024) 1 (L.map fun n=>[i64 n])) L.length i u.row s.row L.length ((L.take i).filter fun q=>decide (js u s q)).length G)
    (fun i=>i≤L.length) (fun i=>L.length-i) 0 rfl (by simp[hLl];omega) (by omega) ?_
   intro i hi;have PM:((L.take i).filter fun q=>decide (js u s q)).length≤i:=Nat.le_trans (List.length_filter_le _ _) (by simp;omega)
   simp (disch:=omega) [-getElem?_pos,wrap64,SO];refine b9 (fun h1=>?_) (fun h1=>?_)
   ·have h1:i<L.length:=by omega
    have hM:=Mh u s (nth L i) [];by_cases h3:js u s (nth L i)
    ·have h4:decide (fe u s∧jC u s (nth L i))=true:=decide_eq_true h3
     rw[h4]at hM;have h5:(L.take (i+1)).filter (fun q=>decide (js u s q))=(L.take i).filter (fun q=>decide (js u s q))++[nth L i]:=by
      rw[jF h1,List.filter_append];simp[h3]
     simp (disch:=omega) [-getElem?_pos,wrap64,eA h1,hM];exact cc (i+1) (by rw[h5];simp) (by omega) (by omega)
    ·have h4:decide (fe u s∧jC u s (nth L i))=false:=decide_eq_false h3
     rw[h4]at hM;have h5:(L.take (i+1)).filter (fun q=>decide (js u s q))=(L.take i).filter (fun q=>decide (js u s q)):=by
      rw[jF h1,List.filter_append];simp[h3]
     simp (disch:=omega) [-getElem?_pos,wrap64,eA h1,hM];exact cc (i+1) (by rw[h5];simp) (by omega) (by omega)
   ·obtain rfl:i=L.length:=by omega
    rw[List.take_length]
  ·rw[if_neg he]
   have hf:mU u g=[]:=by simp[mU,he]
   simp (disch:=omega) [-getElem?_pos,wrap64,GJ,Br,he,hf])
noncomputable abbrev Hk(g:Int)(u:Un)(s:Us):List V:=[.slice none 1 ((rF u s g).map fun n=>[i64 n])]
noncomputable def xn(us:List Un)(g:Int):Int:=if y7 us g then 0 else 10
theorem ahu{us:List Un}{ss:List Us}(hl:us.length=ss.length)(hn:us.length≤1000)(hv:y6 us ss)(g:Int)(G:List aW):bt F 167 [jX us,jD ss,i64 g] G =
  some (.tuple [.slice (some 0) 1 (if xn us g=0 then List.zipWith (Hk g) us ss else []),i64 (xn us g)],G) :=
 cg rfl rfl (by
  generalize hE:xn us g=E;generalize hW:V.tuple [.slice (some 0) 1 (if E=0 then List.zipWith (Hk g) us ss else []),i64 E]=W
  unfold xn at hE;simp (disch:=omega) [-getElem?_pos,wrap64,Lx];refine go_loop (fun i:Nat=>acI (jD ss) g (.slice (some 1035) 1 (List.zipWith (Hk g) (us.take i) (ss.take i))) (jX us) us.length i i G)
   (fun i=>i≤us.length∧∀j,j<i→gA (nth us j) g=0) (fun i=>us.length-i) 0 rfl (by simp) ⟨by omega,by omega⟩ ?_
  rintro i ⟨hi,hf⟩;simp (disch:=omega) [-getElem?_pos,wrap64,SD];refine b9 (fun h3=>?_) (fun h3=>?_)
  ·have h3:i<us.length:=by omega
   have fW:i<ss.length:=by omega
   have hC:=ahr (hv i h3) g [];by_cases h4:gA (nth us i) g=0
   ·rw[if_pos h4]at hC
    simp (disch:=omega) [-getElem?_pos,wrap64,bo (l:=us),bo (l:=ss),hC];refine cc (i+1) ?_ ⟨by omega,fun j hj=>?_⟩ (by omega)
    ·rw[vT h3 fW];simp
    rcases Nat.lt_or_ge j i with h5|h5
    ·exact hf j h5
    ·rwa [show j=i by omega]
   ·rw[if_neg h4]at hC
    rw[if_neg (fun h=>h4 (h i h3))]at hE;subst hE;simp (disch:=omega) [-getElem?_pos,wrap64,bo (l:=us),bo (l:=ss),hC,h4];exact hW
  ·obtain rfl:i=us.length:=by omega
   rw[if_pos (show y7 us g from hf)]at hE;subst hE;rw[List.take_length,List.take_of_length_le (by omega)]
   simp[←hW])
end Go.Proofs.YtmpikpodpgnjhaaGreat
namespace Go.Proofs.YtmpikpodpgnjhaaGreat
set_option linter.all false
open Go.Vm
def Vd:List Nat→List Nat→Prop
 |[],[]=>True
 |n::ns,d::a=>d<n∧Vd ns a
 |_,_=>False
def py:List Nat→Nat
 |[]=>1
 |n::ns=>n*py ns
def rk:List Nat→List Nat→Nat
 |_::ns,d::a=>d*py ns+rk ns a
 |_,_=>0
def inc:List Nat→List Nat→Option (List Nat)
 |n::ns,d::a=>match inc ns a with
  |some b=>some (d::b)
  |none=>if d+1<n then some ((d+1)::List.replicate a.length 0) else none
 |_,_=>none
theorem By:∀{ns a:List Nat},Vd ns a→a.length=ns.length
 |[],[],_=>rfl
 |_::_,_::_,h=>by simp[By h.2]
 |[],_::_,h=>h.elim
 |_::_,[],h=>h.elim
theorem vW:∀{ns a:List Nat},Vd ns a→∀i,i<ns.length→nth a i<nth ns i
 |n::ns,d::a,h,i,hi=>by
  cases i with
  |zero=>exact h.1
  |succ i=>exact vW h.2 i (by simpa using hi)
theorem Bz:∀{ns a:List Nat},Vd ns a→rk ns a<py ns
 |[],[],_=>by simp[rk,py]
 |n::ns,d::a,h=>by
  have ih:=Bz h.2;have h1:=Nat.mul_le_mul_right (py ns) (show d+1≤n from h.1);simp only[rk,py];rw[Nat.succ_mul]at h1;omega
 |[],_::_,h=>h.elim
 |_::_,[],h=>h.elim
theorem Ua:∀{ns a b:List Nat},Vd ns a→Vd ns b→rk ns a=rk ns b→a=b
 |[],[],[],_,_,_=>rfl
 |n::ns,d::a,e::b,ha,hb,h=>by
  have h1:=Bz ha.2;have h2:=Bz hb.2;simp only[rk]at h;have hde:d=e:=by
   rcases Nat.lt_trichotomy d e with h3|h3|h3
   ·have:=Nat.mul_le_mul_right (py ns) (show d+1≤e from h3)
    rw[Nat.succ_mul]at this;omega
   ·exact h3
   ·have:=Nat.mul_le_mul_right (py ns) (show e+1≤d from h3)
    rw[Nat.succ_mul]at this;omega
  subst hde;rw[Ua ha.2 hb.2 (by omega)]
 |[],_::_,_,h,_,_=>h.elim
 |[],[],_::_,_,h,_=>h.elim
 |_::_,[],_,h,_,_=>h.elim
 |_::_,_::_,[],_,h,_=>h.elim
theorem MF:∀{ns:List Nat} {k:Nat},rk ns (List.replicate k 0)=0
 |[],k=>by cases k<;>rfl
 |_::ns,0=>rfl
 |_::ns,k+1=>by simp[List.replicate_succ,rk,MF]
theorem MG:∀{ns:List Nat},(∀n∈ns,0<n)→Vd ns (List.replicate ns.length 0)
 |[],_=>trivial
 |n::ns,h=>⟨h n (by simp),MG fun m hm=>h m (by simp[hm])⟩
theorem Ub:∀{ns a:List Nat},Vd ns a→match inc ns a with
  |none=>rk ns a+1=py ns
  |some b=>Vd ns b∧rk ns b=rk ns a+1
 |[],[],_=>by simp[inc,rk,py]
 |n::ns,d::a,h=>by
  have ih:=Ub h.2;have hl:=By h.2;unfold inc;cases hi:inc ns a with
  |some b =>
   rw[hi]at ih;simp only at ih ⊢;exact⟨⟨h.1,ih.1⟩,by simp only[rk];omega⟩
  |none =>
   rw[hi]at ih;simp only at ih ⊢;have hp:∀m∈ns,0<m:=fun m hm=>by
    obtain⟨i,hi,rfl⟩:=Bv hm;have:=vW h.2 i hi;omega
   by_cases hd:d+1<n
   ·simp only[hd,if_true]
    refine⟨⟨hd,by rw[hl];exact MG hp⟩,?_⟩
    simp only[rk,MF];rw[Nat.succ_mul];omega
   ·simp only[hd,if_false]
    have:n=d+1:=by have:=h.1;omega
    subst this;simp only[rk,py];rw[Nat.succ_mul];omega
 |[],_::_,h=>h.elim
 |_::_,[],h=>h.elim
theorem MH:∀{ns a:List Nat},Vd ns a→(∀j,j<ns.length→nth a j+1=nth ns j)→inc ns a=none
 |[],[],_,_=>rfl
 |n::ns,d::a,h,hm=>by
  have ih:=MH h.2 fun j hj=>hm (j+1) (by simpa using hj)
  have h0:=hm 0 (by simp)
  simp only[inc,ih];have:¬d+1<n:=by simp[nth]at h0;omega
  simp[this]
 |[],_::_,h,_=>h.elim
 |_::_,[],h,_=>h.elim
theorem Uc:∀{ns a:List Nat} {i:Nat},Vd ns a→i<ns.length→(∀j,i<j→j<ns.length→nth a j+1=nth ns j)→nth a i+1<nth ns i →
  inc ns a=some (a.take i++(nth a i+1)::List.replicate (ns.length-1-i) 0)
 |n::ns,d::a,0,h,_,hm,bG=>by
  have ih:=MH h.2 fun j hj=>hm (j+1) (by omega) (by simpa using hj)
  have hl:=By h.2;have:d+1<n:=by simpa [nth] using bG
  simp only[inc,ih,this,if_true];simp[nth,hl]
 |n::ns,d::a,i+1,h,hi,hm,bG=>by
  have pS:i<ns.length:=by simpa using hi
  have ih:=Uc h.2 pS (fun j h1 h2=>hm (j+1) (by omega) (by simpa using h2)) bG
  simp only[inc,ih];simp[nth];omega
 |[],[],_,_,hi,_,_=>by simp at hi
 |[],_::_,_,h,_,_,_=>h.elim
 |_::_,[],_,h,_,_,_=>h.elim
def er(R:List (List Int))(a:List Nat):List Int:=List.zipWith (fun o k=>nth o k) R a
def Eb:List (List Int)→List Int→Prop
 |[],[]=>True
 |o::R,q::F=>q∈o∧Eb R F
 |_,_=>False
theorem MI:∀{R:List (List Int)} {a:List Nat},Vd (R.map List.length) a→Eb R (er R a)
 |[],[],_=>trivial
 |o::R,d::a,h=>⟨rZ h.1,MI h.2⟩
 |[],_::_,h=>h.elim
 |_::_,[],h=>h.elim
theorem MJ:∀{R:List (List Int)} {F:List Int},Eb R F→∃a,Vd (R.map List.length) a∧er R a=F
 |[],[],_=>⟨[],trivial,rfl⟩
 |o::R,q::F,h=>by
  obtain⟨a,h1,h2⟩:=MJ h.2;obtain⟨d,h3,h4⟩:=Bv h.1;exact⟨d::a,⟨h3,h1⟩,by simp only[er,List.zipWith_cons_cons]at h2 ⊢;rw[h2,h4]⟩
 |[],_::_,h=>h.elim
 |_::_,[],h=>h.elim
noncomputable def mB(us:List Un)(ss:List Us)(g:Int):List (List Int):=List.zipWith (fun u s=>rF u s g) us ss
theorem Ec{g:Int}:∀{us:List Un} {ss:List Us} {F:List Int},us.length=ss.length→(Eb (mB us ss g) F↔lL g us ss F)
 |[],[],[],_=>Iff.rfl
 |[],[],_::_,_=>Iff.rfl
 |[],_::_,_,h=>by simp at h
 |_::_,[],_,h=>by simp at h
 |_::_,_::_,[],_=>Iff.rfl
 |u::us,s::ss,q::F,h=>by
  have ih:=Ec (g:=g) (us:=us) (ss:=ss) (F:=F) (by simpa using h)
  show(q∈rF u s g∧Eb (mB us ss g) F)↔(q∈pt u s g∧lL g us ss F);rw[T9,ih]
theorem ahw{u:Un}{s:Us}{g:Int}(hv:fe u s):0<(rF u s g).length:=by
 have:s.cq∈rF u s g:=by
  rw[T9,Bx];refine⟨.inr (.inr rfl),hv,?_⟩;obtain⟨hc,h1,h2⟩:=hv;unfold jC;split
  ·rename_i h;rw[h];intro h3;omega
  ·rename_i h
   rcases h2 with h2 | ⟨h2,h3⟩
   ·exact absurd h2 h
   ·exact⟨h2,fun h4=>h h4.1,h3⟩
 exact List.length_pos_of_mem this
def Kn(us:List Un)(ss:List Us)(R:List (List Int))(release:Int)(r:Nat):Option (List Int)→Prop
 |none=>∀b,Vd (R.map List.length) b→rk (R.map List.length) b<r→release<(er R b).sum
 |some F=>(∃b,Vd (R.map List.length) b∧er R b=F∧F.sum≤release) ∧
   ∀b,Vd (R.map List.length) b→rk (R.map List.length) b<r→(er R b).sum≤release→¬jE (iA us (er R b),iB ss (er R b)) (iA us F,iB ss F) (er R b) F
noncomputable def sL(us:List Un)(ss:List Us)(release:Int)(P:List Int):Option (List Int)→Option (List Int)
 |none=>if P.sum≤release then some P else none
 |some F=>if P.sum≤release then (if jE (iA us P,iB ss P) (iA us F,iB ss F) P F then some P else some F) else some F
theorem ahx{us:List Un}{ss:List Us}{R:List (List Int)}{release:Int}{a:List Nat}(ha:Vd (R.map List.length) a){best:Option (List Int)}(h:Kn us ss R release (rk (R.map List.length) a) best) :
  Kn us ss R release (rk (R.map List.length) a+1) (sL us ss release (er R a) best):=by
 have split:∀b,Vd (R.map List.length) b→rk (R.map List.length) b<rk (R.map List.length) a+1→rk (R.map List.length) b<rk (R.map List.length) a∨b=a:=fun b hb bG=>by
  rcases Nat.lt_or_ge (rk (R.map List.length) b) (rk (R.map List.length) a) with h1|h1
  ·exact .inl h1
  ·exact .inr (Ua hb ha (by omega))
 cases best with
 |none =>
  unfold sL;by_cases hs:(er R a).sum≤release
  ·simp only[hs,if_true]
   refine⟨⟨a,ha,rfl,hs⟩,fun b hb bG tU=>?_⟩;rcases split b hb bG with h1|rfl
   ·have:=h b hb h1;omega
   ·exact T8
  ·simp only[hs,if_false]
   intro b hb bG;rcases split b hb bG with h1|rfl
   ·exact h b hb h1
   ·omega
 |some F =>
  obtain⟨h1,h2⟩:=h;unfold sL;by_cases hs:(er R a).sum≤release
  ·simp only[hs,if_true]
   by_cases hb:jE (iA us (er R a),iB ss (er R a)) (iA us F,iB ss F) (er R a) F
   ·simp only[hb,if_true]
    refine⟨⟨a,ha,rfl,hs⟩,fun b mK bG tU=>?_⟩;rcases split b mK bG with h3|rfl
    ·exact fun h4=>h2 b mK h3 tU (aho h4 hb)
    ·exact T8
   ·simp only[hb,if_false]
    refine⟨h1,fun b mK bG tU=>?_⟩;rcases split b mK bG with h3|rfl
    ·exact h2 b mK h3 tU
    ·exact hb
  ·simp only[hs,if_false]
   refine⟨h1,fun b mK bG tU=>?_⟩;rcases split b mK bG with h3|rfl
   ·exact h2 b mK h3 tU
   ·omega
theorem Ud{us:List Un}{ss:List Us}{g release:Int}(hl:us.length=ss.length){best:Option (List Int)}(h:Kn us ss (mB us ss g) release (py ((mB us ss g).map List.length)) best) :
  match best with
  |none=>∀F,lL g us ss F→release<F.sum
  |some F=>zA g us ss release F:=by
 cases best with
 |none =>
  intro F hF;obtain⟨b,hb,rfl⟩:=MJ ((Ec hl).2 hF);exact h b hb (Bz hb)
 |some F =>
  obtain⟨⟨b,hb,e,hs⟩,h2⟩:=h;refine⟨?_,hs,fun E hE hEs=>?_⟩
  ·rw[←e];exact(Ec hl).1 (MI hb)
  ·obtain⟨c,hc,rfl⟩:=MJ ((Ec hl).2 hE)
   exact h2 c hc (Bz hc) hEs
end Go.Proofs.YtmpikpodpgnjhaaGreat
