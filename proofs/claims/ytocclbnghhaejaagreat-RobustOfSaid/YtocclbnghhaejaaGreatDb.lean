/- Parts of the proof, joined: Dsp1, Dsp2, Dsp3, Dsp4, Dsp5, Dsp6, Dsp7, Dsp8, Ord1, Ref1, Ref2. -/
import Derived.Test.YtocclbnghhaejaaGreatDa
namespace Go.Proofs.YtocclbnghhaejaaGreat
set_option linter.all false
open Go.Vm
attribute [local simp] lQ lR kP lP
theorem mc{α:Type}[Inhabited α]{l:List α}{i:Nat}(h:i<l.length):l.drop i=nth l i::l.drop (i+1):=by
 rw[List.drop_eq_getElem_cons h];simp[nth,List.getD,h]
def gu:List Int→List Int→Int
 |[],[]=>0
 |[],_::_ => -1
 |_::_,[]=>1
 |a::p,b::q=>if a<b then -1 else if b<a then 1 else gu p q
theorem OX(a:Int)(G:List aP):aX F 180 [i64 a] G=some (.bool false,G) :=
 bM rfl rfl (by simp[wrap64,Xv])
theorem OY(a b:Int)(G:List aP):aX F 146 [i64 a,i64 b] G=some (i64 (if a<b then -1 else if b<a then 1 else 0),G) :=
 bM rfl rfl (by
  by_cases h1:a<b
  ·simp[wrap64,I7,OX,h1]
  ·by_cases h2:b<a
   ·simp[wrap64,I7,OX,h1,h2]
   ·simp[wrap64,I7,OX,h1,h2])
theorem alN(p q:List Int)(hp:p.length≤4294967296)(G:List aP):aX F 97 [ints p,ints q] G=some (i64 (gu p q),G) :=
 bM rfl rfl (by
  generalize hW:gu p q=W;simp (disch:=omega) [-getElem?_pos,wrap64,Wc];refine go_loop (fun i:Nat=>aiD (ints p) (ints q) (ints p) p.length i G) (fun i=>i≤p.length∧i≤q.length∧gu (p.drop i) (q.drop i)=W) (fun i=>p.length-i) 0 rfl (by simp) ⟨by omega,by omega,by simpa using hW⟩ ?_
  rintro i ⟨h1,h2,h3⟩;simp (disch:=omega) [-getElem?_pos,wrap64,Wb];refine bE (fun h4=>?_) (fun h4=>?_)
  ·have h4:i<p.length:=by omega
   rw[mc h4]at h3;by_cases h5:i<q.length
   ·rw[mc h5,gu]at h3
    have h6:¬q.length≤i:=by omega
    by_cases h7:nth p i<nth q i
    ·rw[if_pos h7]at h3
     simp (disch:=omega) [-getElem?_pos,wrap64,dj,OY,h6,h7];exact h3
    ·rw[if_neg h7]at h3
     by_cases h8:nth q i<nth p i
     ·rw[if_pos h8]at h3
      simp (disch:=omega) [-getElem?_pos,wrap64,dj,OY,h6,h7,h8];exact h3
     ·rw[if_neg h8]at h3
      simp (disch:=omega) [-getElem?_pos,wrap64,dj,OY,h6,h7,h8];exact bF (i+1) (by simp) ⟨by omega,by omega,h3⟩ (by omega)
   ·obtain rfl:i=q.length:=by omega
    rw[List.drop_length,gu]at h3;simp (disch:=omega) [-getElem?_pos,wrap64,dj];exact h3
  ·obtain rfl:i=p.length:=by omega
   rw[List.drop_length]at h3;refine bE (fun h5=>?_) (fun h5=>?_)
   ·have h6:p.length<q.length:=by omega
    rw[mc h6,gu]at h3;exact h3
   ·obtain h6:q.drop p.length=[]:=List.drop_eq_nil_iff.2 (by omega)
    rw[h6,gu]at h3;exact h3)
abbrev Jy(a:Int×Int):V:=.agg [i64 a.1,i64 a.2]
def jU(a b:Int×Int)(p q:List Int):Prop:=if a.1≠b.1 then b.1<a.1 else if a.2≠b.2 then a.2<b.2 else gu p q<0
instance {a b:Int×Int} {p q:List Int}:Decidable (jU a b p q):=by unfold jU;infer_instance
theorem alO(a b:Int×Int)(p q:List Int)(hp:p.length≤4294967296)(G:List aP):aX F 238 [Jy a,Jy b,ints p,ints q] G=some (.bool (decide (jU a b p q)),G) :=
 bM rfl rfl (by
  generalize hW:decide (jU a b p q)=W;simp only[jU]at hW;obtain⟨a1,a2⟩:=a;obtain⟨b1,b2⟩:=b;simp only at hW;by_cases h1:a1=b1
  ·by_cases h2:a2=b2
   ·simp[wrap64,Jj,alN p q hp,h1,h2]
    simpa [h1,h2] using hW
   ·simp[wrap64,Jj,h1,h2]
    simpa [h1,h2] using hW
  ·simp[wrap64,Jj,h1]
   simpa [h1] using hW)
theorem alP(p q:List Int)(hp:p.length≤4294967296)(G:List aP):aX F 214 [ints p,ints q] G=some (.bool (decide (gu p q<0)),G) :=
 bM rfl rfl (by
  generalize hW:gu p q=W;simp (disch:=omega) [-getElem?_pos,wrap64,X2];refine go_loop (fun i:Nat=>akG (ints p) (ints q) p.length i G) (fun i=>i≤p.length∧i≤q.length∧gu (p.drop i) (q.drop i)=W) (fun i=>p.length-i) 0 rfl (by simp) ⟨by omega,by omega,by simpa using hW⟩ ?_
  rintro i ⟨h1,h2,h3⟩;simp (disch:=omega) [-getElem?_pos,wrap64,X1];refine bE (fun h4=>?_) (fun h4=>?_)
  ·have h4:i<p.length:=by omega
   rw[mc h4]at h3;by_cases h5:i<q.length
   ·rw[mc h5,gu]at h3
    have h6:¬q.length≤i:=by omega
    by_cases h7:nth p i<nth q i
    ·rw[if_pos h7]at h3
     have h9:¬nth p i=nth q i:=by omega
     subst h3;simp (disch:=omega) [-getElem?_pos,wrap64,dj,h6,h7,h9,h5]
    ·rw[if_neg h7]at h3
     by_cases h8:nth q i<nth p i
     ·rw[if_pos h8]at h3
      have h9:¬nth p i=nth q i:=by omega
      subst h3;simp (disch:=omega) [-getElem?_pos,wrap64,dj,h6,h7,h9,h5]
     ·rw[if_neg h8]at h3
      have h9:nth p i=nth q i:=by omega
      simp (disch:=omega) [-getElem?_pos,wrap64,dj,h6,h9,h5];exact bF (i+1) (by simp) ⟨by omega,by omega,h3⟩ (by omega)
   ·obtain rfl:i=q.length:=by omega
    rw[List.drop_length,gu]at h3;subst h3;simp (disch:=omega) [-getElem?_pos,wrap64,dj]
  ·obtain rfl:i=p.length:=by omega
   rw[List.drop_length]at h3;by_cases h6:p.length<q.length
   ·rw[mc h6,gu]at h3
    subst h3;simp[h6]
   ·have h7:q.drop p.length=[]:=List.drop_eq_nil_iff.2 (by omega)
    rw[h7,gu]at h3;subst h3;simp;omega)
theorem Y3(a b:Int×Int)(p q:List Int)(hp:p.length≤4294967296)(G:List aP):aX F 202 [Jy a,Jy b,ints p,ints q] G=some (.bool (decide (jU a b p q)),G) :=
 bM rfl rfl (by
  generalize hW:decide (jU a b p q)=W;simp only[jU]at hW;obtain⟨a1,a2⟩:=a;obtain⟨b1,b2⟩:=b;simp only at hW;by_cases h1:a1=b1
  ·by_cases h2:a2=b2
   ·simp[wrap64,Jd,alP p q hp,h1,h2]
    simpa [h1,h2] using hW
   ·simp[wrap64,Jd,h1,h2]
    simpa [h1,h2] using hW
  ·simp[wrap64,Jd,h1]
   simpa [h1] using hW)
def jH(u:Un)(s:Us)(q:Int):Prop:=eU u s∧jS u s q
noncomputable instance {u:Un} {s:Us} {q:Int}:Decidable (jH u s q):=by unfold jH;infer_instance
def iw(s:Us)(q:Int):Int:=if 0<q∧s.cd=0 then 1 else 0
noncomputable def xW:List Un→List Us→List Int→Int×Int×Int→Option (Int×Int×Int)
 |u::us,s::ss,f::fs,a=>if jH u s f then xW us ss fs (a.1+f,a.2.1+pow u f,a.2.2+iw s f) else none
 |_,_,_,a=>some a
noncomputable def BE(us:List Un)(ss:List Us)(fs:List Int):Option (Int×Int×Int):=if us.length=ss.length∧us.length=fs.length then xW us ss fs (0,0,0) else none
def DD:Option (Int×Int×Int)→V
 |some (a,b,c)=>.tuple [i64 a,i64 b,i64 c,.bool true]
 |none=>.tuple [i64 0,i64 0,i64 0,.bool false]
theorem Jz{u:Un}{s:Us}{q:Int}(h:jH u s q):0≤q∧q≤1073741824:=by
 obtain⟨⟨hc,_⟩,h2⟩:=h;have hu:=pD hc;have:=hu.least;have:=hu.OJ;unfold jS at h2;split at h2
 ·omega
 ·have a:=h2.2.2.1
  have b:=h2.2.2.2.1;omega
theorem JA{u:Un}{q:Int}:0≤pow u q∧pow u q≤1073741824:=by
 unfold pow;split
 ·rename_i h
  have hu:=pD h.1;have hp:=hu.cv.pos;have a:=DA hu.cv q;have b:=hu.top;have c:=(hu.cv.y0 0 (by omega)).1
  omega
 ·omega
theorem OZ{s:Us}{q:Int}:0≤iw s q∧iw s q≤1:=by unfold iw;split<;>omega
theorem Y4(us:List Un)(ss:List Us)(fs:List Int)(hn:us.length≤1000)(G:List aP):aX F 171 [ke us,jT ss,ints fs] G=some (DD (BE us ss fs),G) :=
 bM rfl rfl (by
  generalize hW:DD (BE us ss fs)=W;unfold BE at hW;by_cases h1:us.length=ss.length
  ·by_cases h2:us.length=fs.length
   ·rw[if_pos ⟨h1,h2⟩]at hW
    simp +contextual (disch:=omega) [-getElem?_pos,wrap64,Jb,← h1,← h2];refine go_loop (fun x:Nat×Int×Int×Int=>ajW (jT ss) (ints fs) x.2.1 x.2.2.1 x.2.2.2 (ke us) us.length x.1 G)
     (fun x=>x.1≤us.length∧DD (xW (us.drop x.1) (ss.drop x.1) (fs.drop x.1) (x.2.1,x.2.2.1,x.2.2.2))=W∧(0≤x.2.1∧x.2.1≤1073741824*(x.1:Int))∧(0≤x.2.2.1∧x.2.2.1≤1073741824*(x.1:Int))∧0≤x.2.2.2∧x.2.2.2≤x.1) (fun x=>us.length-x.1) (0,0,0,0) rfl (by simp) (by simpa using hW) ?_
    rintro⟨i,a,b,c⟩ ⟨hi,hq,ha,hb,hc⟩;simp only at hi hq ha hb hc;simp +contextual (disch:=omega) [-getElem?_pos,wrap64,Xk];refine bE (fun h4=>?_) (fun h4=>?_)
    ·have h4:i<us.length:=by omega
     have h5:i<ss.length:=by omega
     have h6:i<fs.length:=by omega
     rw[mc h4,mc h5,mc h6,xW]at hq;by_cases h7:jH (nth us i) (nth ss i) (nth fs i)
     ·rw[if_pos h7]at hq
      have r1:=Jz h7;have r2:=JA (u:=nth us i) (q:=nth fs i);have r3:=OZ (s:=nth ss i) (q:=nth fs i);have h8:decide (eU (nth us i) (nth ss i)∧jS (nth us i) (nth ss i) (nth fs i))=true:=decide_eq_true h7;simp only at hq;have O0:i+1≤us.length∧DD (xW (us.drop (i+1)) (ss.drop (i+1)) (fs.drop (i+1)) (a+nth fs i,b+pow (nth us i) (nth fs i),c+iw (nth ss i) (nth fs i)))=W ∧
        (0≤a+nth fs i∧a+nth fs i≤1073741824*((i+1:Nat):Int))∧(0≤b+pow (nth us i) (nth fs i)∧b+pow (nth us i) (nth fs i)≤1073741824*((i+1:Nat):Int))∧0≤c+iw (nth ss i) (nth fs i)∧c+iw (nth ss i) (nth fs i)≤(i+1:Nat) :=
       ⟨by omega,hq,by omega,by omega,by omega⟩
      have hN:=OO (nth us i) (nth ss i) (nth fs i) [];have e:sa (nth us i) (nth ss i) (nth fs i)=0:=by
       obtain⟨⟨q1,q2⟩,q3⟩:=h7;simp[sa,q1,q3,show eU (nth us i) (nth ss i) from⟨q1,q2⟩]
      simp only[e,if_true]at hN;by_cases h9:0<nth fs i
      ·by_cases fO:(nth ss i).cd=0
       ·have iA:iw (nth ss i) (nth fs i)=1:=by simp[iw,h9,fO]
        simp +contextual (disch:=omega) [-getElem?_pos,wrap64,aW (l:=us),aW (l:=ss),dj,hN,ON,h9];simp +contextual (disch:=omega) [-getElem?_pos,wrap64,fO];exact bF (i+1,a+nth fs i,b+pow (nth us i) (nth fs i),c+iw (nth ss i) (nth fs i)) (by simp[iA]) O0 (by simp;omega)
       ·have iA:iw (nth ss i) (nth fs i)=0:=by simp[iw,fO]
        simp +contextual (disch:=omega) [-getElem?_pos,wrap64,aW (l:=us),aW (l:=ss),dj,hN,ON,h9];simp +contextual (disch:=omega) [-getElem?_pos,wrap64,fO];exact bF (i+1,a+nth fs i,b+pow (nth us i) (nth fs i),c+iw (nth ss i) (nth fs i)) (by simp[iA]) O0 (by simp;omega)
      ·have iA:iw (nth ss i) (nth fs i)=0:=by simp[iw,h9]
       simp +contextual (disch:=omega) [-getElem?_pos,wrap64,aW (l:=us),aW (l:=ss),dj,hN,ON,h9];exact bF (i+1,a+nth fs i,b+pow (nth us i) (nth fs i),c+iw (nth ss i) (nth fs i)) (by simp[iA]) O0 (by simp;omega)
     ·rw[if_neg h7]at hq
      have hN:=OO (nth us i) (nth ss i) (nth fs i) [];have e:¬sa (nth us i) (nth ss i) (nth fs i)=0:=fun e=>by
       unfold sa at e;split at e
       ·contradiction
       ·split at e
        ·cases e
        ·split at e
         ·cases e
         ·rename_i a1 a2 a3
          exact h7 ⟨Decidable.of_not_not a2,Decidable.of_not_not a3⟩
      simp only[e,if_false]at hN;simp +contextual (disch:=omega) [-getElem?_pos,wrap64,aW (l:=us),aW (l:=ss),dj,hN,e];exact hq
    ·obtain rfl:i=us.length:=by omega
     rw[List.drop_length,xW]at hq
     ·exact hq
     ·intro u kH s ss' f fs' e;cases e
   ·rw[if_neg (fun h=>h2 h.2)]at hW
    have h3:¬ss.length=fs.length:=by omega
    simp +contextual (disch:=omega) [-getElem?_pos,wrap64,Jb,h1];refine fe (fun h=>?_) (fun h=>?_)
    ·exact hW
    ·simp[-List.length_eq_zero_iff,-Int.natCast_eq_zero]at h
     omega
  ·rw[if_neg (fun h=>h1 h.1)]at hW
   simp +contextual (disch:=omega) [-getElem?_pos,wrap64,Jb];refine fe (fun h=>?_) (fun h=>?_)
   ·exact hW
   ·simp[-List.length_eq_zero_iff,-Int.natCast_eq_zero]at h
    omega)
noncomputable def p7(u:Un)(s:Us)(g:Int):List Int:=(dedup (nb (eY u g++[0,s.cd]))).filter fun q=>decide (jH u s q)
noncomputable abbrev JB(u:Un)(s:Us)(q:Int):List V:=[i64 q,i64 (pow u q),i64 (iw s q)]
theorem jI{α:Type}[Inhabited α]{l:List α}{i:Nat}(h:i<l.length):l.take (i+1)=l.take i++[nth l i]:=by
 rw[List.take_add_one,aW h];rfl
theorem p8{α:Type}[Inhabited α]{l m:List α}{i:Nat}(h:i<l.length):nth (l++m) i=nth l i:=by
 simp[nth,List.getElem?_append,h]
theorem Y5{u:Un}{s:Us}{L Z:List Int}{G:List aP}{K:cz}(hL:L.length≤4294967296)
  (hK:∀z,K (.exit 0) ⟨[(3,.bf 3 0),(4,.bf 4 0),(10,.slice (some 1061) 3 ((L.filter fun q=>decide (jH u s q)).map (JB u s))),(30,.bQ 20026 1 L.length),(31,i64 L.length),(32,i64 L.length),(33,z)],[(3,u.row),(4,s.row),(20026,dM (L++Z))],[(1061,(L.filter fun q=>decide (jH u s q)).length)],G⟩) :
  go (aX F) Yy ⟨[(3,.bf 3 0),(4,.bf 4 0),(10,.bV),(30,.bQ 20026 1 L.length),(31,i64 L.length),(32,i64 0)],[(3,u.row),(4,s.row),(20026,dM (L++Z))],[],G⟩ K:=by
 refine go_loop (fun i:Nat=>alh (.slice (some 1061) 3 (((L.take i).filter fun q=>decide (jH u s q)).map (JB u s))) L.length L.length i u.row s.row (dM (L++Z)) ((L.take i).filter fun q=>decide (jH u s q)).length G) (fun i=>i≤L.length) (fun i=>L.length-i) 0 rfl (by simp) (by omega) ?_
 intro i hi;have hlen:((L.take i).filter fun q=>decide (jH u s q)).length≤i:=Nat.le_trans (List.length_filter_le _ _) (by simp;omega)
 simp (disch:=omega) [wrap64,Yx];refine bE (fun h1=>?_) (fun h1=>?_)
 ·have h1:i<L.length:=by omega
  have h2:i<(L++Z).length:=by simp;omega
  have hM:=alD u s (nth L i) [];by_cases h3:jH u s (nth L i)
  ·have h4:decide (eU u s∧jS u s (nth L i))=true:=decide_eq_true h3
   rw[h4]at hM;have h5:(L.take (i+1)).filter (fun q=>decide (jH u s q))=(L.take i).filter (fun q=>decide (jH u s q))++[nth L i]:=by
    rw[jI h1,List.filter_append];simp[h3]
   by_cases h6:0<nth L i
   ·by_cases h7:s.cd=0
    ·have h8:iw s (nth L i)=1:=by simp[iw,h6,h7]
     simp (disch:=omega) [wrap64,lx h2,p8 h1,hM,Gb,h6];simp (disch:=omega) [wrap64,h7];exact bF (i+1) (by rw[h5];simp[h8]) (by omega) (by omega)
    ·have h8:iw s (nth L i)=0:=by simp[iw,h7]
     simp (disch:=omega) [wrap64,lx h2,p8 h1,hM,Gb,h6];simp (disch:=omega) [wrap64,h7];exact bF (i+1) (by rw[h5];simp[h8]) (by omega) (by omega)
   ·have h8:iw s (nth L i)=0:=by simp[iw,h6]
    simp (disch:=omega) [wrap64,lx h2,p8 h1,hM,Gb,h6];exact bF (i+1) (by rw[h5];simp[h8]) (by omega) (by omega)
  ·have h4:decide (eU u s∧jS u s (nth L i))=false:=decide_eq_false h3
   rw[h4]at hM;have h5:(L.take (i+1)).filter (fun q=>decide (jH u s q))=(L.take i).filter (fun q=>decide (jH u s q)):=by
    rw[jI h1,List.filter_append];simp[h3]
   simp (disch:=omega) [wrap64,lx h2,p8 h1,hM];exact bF (i+1) (by rw[h5];simp) (by omega) (by omega)
 ·obtain rfl:i=L.length:=by omega
  rw[List.take_length];exact hK _
theorem alQ{u:Un}{s:Us}(hv:eU u s){g:Int}(hg:1≤g∧g≤1073741824)(G:List aP):aX F 243 [un u,us s,i64 g] G =
  some (if gA u g=0 then .tuple [.slice (some 0) 3 ((p7 u s g).map (JB u s)),.bool true] else .tuple [.slice (some 0) 3 [],.bool false],G) :=
 bM rfl rfl (by
  by_cases he:gA u g=0
  ·have hlen:(eY u g).length≤200:=by
    unfold gA at he;split at he
    ·contradiction
    ·split at he
     ·cases he
     ·split at he
      ·cases he
      ·omega
   have hf:nx u g=eY u g:=by simp[nx,he]
   have hd:=Df (nb (eY u g++[0,s.cd]));have hs:=(zN (eY u g++[0,s.cd])).length_eq;simp at hs;have hm:tC 1 (nb (eY u g++[0,s.cd]))=dedup (nb (eY u g++[0,s.cd]))++List.replicate ((nb (eY u g++[0,s.cd])).length-(dedup (nb (eY u g++[0,s.cd]))).length) 0:=rfl;have Ba:∀l,tC 0 l=nb l:=fun _=>rfl;have hc:(p7 u s g)=(dedup (nb (eY u g++[0,s.cd]))).filter fun q=>decide (jH u s q):=rfl;rw[if_pos he,hc];have ha:∀l:List Int,dM l++[i64 0,i64 s.cd]=dM (l++[0,s.cd]):=fun l=>by simp[dM]
   have hz:[i64 0,i64 s.cd]=dM [0,s.cd]:=rfl;have rH:(eY u g).length+2=(eY u g++[0,s.cd]).length:=by simp
   have AX:(nb (eY u g++[0,s.cd])).length=(eY u g++[0,s.cd]).length:=(zN _).length_eq;by_cases hn:eY u g=[]
   ·rw[hn]at hm hd hs hf AX ⊢
    simp only[List.nil_append]at hm hd hs AX ⊢;have e1:j8 20026 0 (.tuple [own [],i64 0])=some (.tuple [.dR 1,i64 0],none):=rfl;have h2:2=(nb [0,s.cd]).length:=by rw[AX];rfl
    simp (disch:=omega) [wrap64,Jk,OT,he,hf,e1,hz,II (zs:=[0,s.cd]) (n:=2) rfl (by omega),Ba,II h2 (by omega),hm]
    refine Y5 (u:=u) (s:=s) (L:=dedup (nb [0,s.cd])) (by omega) fun z=>?_
    simp (disch:=omega) [wrap64,wrap64]
   ·have e1:=afK (id:=20026) (t:=0) (e:=0) hn
    rw[←rH]at AX;simp (disch:=omega) [wrap64,Jk,OT,he,hf,e1,ha,II rH (by omega),Ba,II AX.symm (by omega),hm]
    refine Y5 (u:=u) (s:=s) (L:=dedup (nb (eY u g++[0,s.cd]))) (by omega) fun z=>?_
    simp (disch:=omega) [wrap64,wrap64]
  ·rw[if_neg he]
   have hf:nx u g=[]:=by simp[nx,he]
   have e1:j8 20026 0 (.tuple [own [],i64 (gA u g)])=some (.tuple [.dR 1,i64 (gA u g)],none):=rfl;simp (disch:=omega) [wrap64,Jk,OT,he,hf,e1])
def BF(us:List Un)(ss:List Us):Prop:=∀i,i<us.length→eU (nth us i) (nth ss i)
noncomputable instance {us:List Un} {ss:List Us}:Decidable (BF us ss):=Classical.propDecidable _
def BG(us:List Un)(g:Int):Prop:=∀i,i<us.length→gA (nth us i) g=0
noncomputable instance {us:List Un} {g:Int}:Decidable (BG us g):=Classical.propDecidable _
noncomputable def p9(us:List Un)(ss:List Us)(g release:Int):Int :=
 if 6<us.length then 10 else if us.length≠ss.length then 3 else if ¬BF us ss then 3
 else if g<1∨1073741824<g∨release<0∨1073741824<release then 1 else if 200*g<release then 10 else if ¬BG us g then 10 else 0
noncomputable abbrev Gg(g:Int)(u:Un)(s:Us):List V:=[.slice none 3 ((p7 u s g).map (JB u s))]
theorem xX{α β γ:Type}[Inhabited α][Inhabited β]{f:α→β→γ}{a:List α}{b:List β}{i:Nat}(h1:i<a.length)(h2:i<b.length) :
  List.zipWith f (a.take (i+1)) (b.take (i+1))=List.zipWith f (a.take i) (b.take i)++[f (nth a i) (nth b i)]:=by
 rw[jI h1,jI h2,List.zipWith_append (by simp;omega)]
 rfl
theorem alR(us:List Un)(ss:List Us)(g release:Int)(G:List aP):aX F 236 [ke us,jT ss,i64 g,i64 release] G =
  some (.tuple [.slice (some 0) 1 (if p9 us ss g release=0 then List.zipWith (Gg g) us ss else []),i64 (p9 us ss g release)],G) :=
 bM rfl rfl (by
  generalize hE:p9 us ss g release=E;generalize hW:V.tuple [.slice (some 0) 1 (if E=0 then List.zipWith (Gg g) us ss else []),i64 E]=W
  unfold p9 at hE;simp +contextual (disch:=omega) [-getElem?_pos,wrap64,Yq];refine bE (fun h1=>?_) (fun h1=>fe (fun h2=>?_) (fun h2=>?_))
  ·rw[if_pos (by omega)]at hE
   subst hE;exact hW
  ·simp[-List.length_eq_zero_iff,-Int.natCast_eq_zero]at h2
   rw[if_neg (by omega),if_pos (by omega)]at hE
   subst hE;exact hW
  ·simp[-List.length_eq_zero_iff,-Int.natCast_eq_zero]at h2
   have hl:us.length=ss.length:=by omega
   rw[if_neg (by omega),if_neg (by omega)]at hE
   refine go_loop (fun i:Nat=>ak5 (ke us) (jT ss) g release (ke us) us.length i G) (fun i=>i≤us.length∧∀j,j<i→eU (nth us j) (nth ss j)) (fun i=>us.length-i) 0 rfl (by simp) ⟨by omega,by omega⟩ ?_
   rintro i ⟨hi,hv⟩;simp +contextual (disch:=omega) [-getElem?_pos,wrap64,Yo];refine bE (fun h3=>?_) (fun h3=>?_)
   ·have h3:i<us.length:=by omega
    by_cases h4:eU (nth us i) (nth ss i)
    ·simp +contextual (disch:=omega) [-getElem?_pos,wrap64,aW (l:=us),aW (l:=ss),zV,h4]
     refine bF (i+1) (by simp) ⟨by omega,fun j hj=>?_⟩ (by omega)
     rcases Nat.lt_or_ge j i with h5|h5
     ·exact hv j h5
     ·rwa [show j=i by omega]
    ·rw[if_pos (fun h=>h4 (h i h3))]at hE
     subst hE;simp +contextual (disch:=omega) [-getElem?_pos,wrap64,aW (l:=us),aW (l:=ss),zV,h4];exact hW
   ·obtain rfl:i=us.length:=by omega
    rw[if_neg (fun h=>h hv)]at hE;by_cases h5:g<1∨1073741824<g
    ·rw[if_pos (by omega)]at hE
     subst hE;have h6:(decide (g<1) || decide (1073741824<g))=true:=by simpa using h5
     simp +contextual (disch:=omega) [-getElem?_pos,wrap64,dC,h6];exact hW
    ·have h6:(decide (g<1) || decide (1073741824<g))=false:=by simpa using h5
     by_cases h7:release<0∨1073741824<release
     ·rw[if_pos (by omega)]at hE
      subst hE;have h8:(!decide (0≤release) || !decide (release≤1073741824))=true:=by simp;omega
      simp +contextual (disch:=omega) [-getElem?_pos,wrap64,dC,h6,h8];exact hW
     ·rw[if_neg (by omega)]at hE
      have h8:(!decide (0≤release) || !decide (release≤1073741824))=false:=by simp;omega
      simp +contextual (disch:=omega) [-getElem?_pos,wrap64,dC,h6,h8];refine bE (fun h9=>?_) (fun h9=>?_)
      ·rw[if_pos h9]at hE
       subst hE;exact hW
      ·rw[if_neg h9]at hE
       refine go_loop (fun i:Nat=>ak7 (jT ss) g (.slice (some 1079) 1 (List.zipWith (Gg g) (us.take i) (ss.take i))) (ke us) us.length i i G)
        (fun i=>i≤us.length∧∀j,j<i→gA (nth us j) g=0) (fun i=>us.length-i) 0 rfl (by simp) ⟨by omega,by omega⟩ ?_
       rintro i ⟨hi,hf⟩;simp +contextual (disch:=omega) [-getElem?_pos,wrap64,Yp];refine bE (fun h3=>?_) (fun h3=>?_)
       ·have h3:i<us.length:=by omega
        have fO:i<ss.length:=by omega
        have hC:=alQ (hv i h3) (g:=g) (by omega) []
        by_cases h4:gA (nth us i) g=0
        ·rw[if_pos h4]at hC
         simp +contextual (disch:=omega) [-getElem?_pos,wrap64,aW (l:=us),aW (l:=ss),hC];refine bF (i+1) ?_ ⟨by omega,fun j hj=>?_⟩ (by omega)
         ·rw[xX h3 fO];simp
         rcases Nat.lt_or_ge j i with h5|h5
         ·exact hf j h5
         ·rwa [show j=i by omega]
        ·rw[if_neg h4]at hC
         rw[if_pos (fun h=>h4 (h i h3))]at hE;subst hE;simp +contextual (disch:=omega) [-getElem?_pos,wrap64,aW (l:=us),aW (l:=ss),hC];exact hW
       ·obtain rfl:i=us.length:=by omega
        rw[if_neg (fun h=>h hf)]at hE;subst hE;rw[List.take_length,List.take_of_length_le (by omega)]
        simp[←hW,hl])
structure Ch where
 cd:Int
 jq:Int
 jr:Int
 deriving Inhabited
abbrev Ch.row(c:Ch):List V:=[i64 c.cd,i64 c.jq,i64 c.jr]
abbrev O1(l:List Ch):List V:=[.slice none 3 (l.map Ch.row)]
abbrev Part:=Option (Int×Int×Int)
def ja:Part→List V
 |none=>[.bool false,i64 0,i64 0,i64 0]
 |some (p,s,f)=>[.bool true,i64 p,i64 s,i64 f]
@[simp] theorem avt{p:Part}{d:Nat}:((ja p).all fun v => !v.cD d)=true:=by
 cases p with
 |none=>rfl
 |some q=>rfl
abbrev me(p:Part):V:=.agg (ja p)
def cS(rest:Int→Part)(left:Int)(c:Ch)(out:Part):Part:=match rest (left-c.cd) with
 |none=>out
 |some (p,s,_)=>match out with
  |none=>some (p+c.jq,s+c.jr,c.cd)
  |some (q,t,f)=>if jU (p+c.jq,s+c.jr) (q,t) [] [] then some (p+c.jq,s+c.jr,c.cd) else some (q,t,f)
def pF(rest:Int→Part)(left:Int):List Ch→Part→Part
 |[],out=>out
 |c::cs,out=>if left<c.cd then out else pF rest left cs (cS rest left c out)
def js:List (List Ch)→Int→Part
 |[],_=>some (0,0,0)
 |l::ls,left=>pF (js ls) left l none
def mF:List (List Ch)→Int→Option (List Int)
 |[],_=>some []
 |l::ls,left=>match js (l::ls) left with
  |none=>none
  |some (_,_,f)=>(mF ls (left-f)).map (f :: ·)
abbrev z7:=List ((Int×Int)×Part)
def qP(m:z7):List (V×V):=m.map fun e=>(.agg [i64 e.1.1,i64 e.1.2],me e.2)
def wD(LL:List (List Ch))(m:z7):Prop:=∀e∈m,∃i:Nat,e.1.1=i∧e.2=js (LL.drop i) e.1.2
def gl(n:Nat)(LL:List (List Ch))(m:z7):List aP:=[.cells [.slice none 1 (LL.map O1)],.map (qP m),.cells [.map 1],.cells [.fn n [.bG 0 0,.bG 2 0,.bG 3 0]]]
theorem O2{LL:List (List Ch)}{i:Nat}{left:Int}:∀{m:z7} {k:Nat},wD LL m →
  mq true [0,0] (.agg [i64 i,i64 left]) (qP m) k=some none∨∃j,mq true [0,0] (.agg [i64 i,i64 left]) (qP m) k=some (some (k+j,me (js (LL.drop i) left)))∧j<m.length
 |[],k,_=>.inl rfl
 |e::m,k,h=>by
  obtain⟨⟨a,b⟩,p⟩:=e;obtain⟨i',h1,h2⟩:=h ((a,b),p) (by simp)
  simp only at h1 h2;have h3:∀x∈m,∃i:Nat,x.1.1=i∧x.2=js (LL.drop i) x.1.2:=fun x hx=>h x (by simp[hx])
  have step:mq true [0,0] (.agg [i64 i,i64 left]) (qP (((a,b),p)::m)) k=if (i:Int)=a∧left=b then some (some (k,me p)) else mq true [0,0] (.agg [i64 i,i64 left]) (qP m) (k+1):=by
   show(match V.mo true [0,0] (.agg [i64 i,i64 left]) (.agg [i64 a,i64 b]) with|some true=>some (some (k,me p))|some false=>mq true [0,0] (.agg [i64 i,i64 left]) (qP m) (k+1)|none=>none)=_
   have:V.mo true [0,0] (.agg [i64 i,i64 left]) (.agg [i64 a,i64 b])=some (decide ((i:Int)=a∧left=b)):=by
    simp[V.mo,eu,kq]<;>(by_cases q1:(i:Int)=a<;>by_cases q2:left=b<;>simp[q1,q2])
   rw[this];by_cases q:(i:Int)=a∧left=b
   ·simp[q]
   ·rw[decide_eq_false q,if_neg q]
  rw[step];split
  ·rename_i q
   refine .inr ⟨0,?_,by simp⟩
   have:i=i':=by omega
   subst this;rw[h2,← q.2];rfl
  ·rcases O2 (k:=k+1) h3 with h4 | ⟨j,h4,h5⟩
   ·exact .inl h4
   ·exact .inr ⟨j+1,by rw[h4];simp;omega,by simp;omega⟩
structure Lb(LL:List (List Ch)):Prop where
 jo:LL.length≤6
 each:∀i,i<LL.length→(nth LL i).length≤1000
 cd:∀i j,i<LL.length→j<(nth LL i).length→0≤(nth (nth LL i) j).cd∧(nth (nth LL i) j).cd≤1073741824
 jq:∀i j,i<LL.length→j<(nth LL i).length→0≤(nth (nth LL i) j).jq∧(nth (nth LL i) j).jq≤1073741824
 jr:∀i j,i<LL.length→j<(nth LL i).length→0≤(nth (nth LL i) j).jr∧(nth (nth LL i) j).jr≤1
def pb(k:Int):Part→Prop
 |none=>True
 |some (p,s,f)=>(0≤p∧p≤1073741824*k)∧(0≤s∧s≤k)∧0≤f
theorem Y6{rest:Int→Part}{left k:Int}(hr:∀x,pb k (rest x)):∀{l:List Ch} {out:Part},pb (k+1) out →
  (∀c∈l,0≤c.cd∧(0≤c.jq∧c.jq≤1073741824)∧0≤c.jr∧c.jr≤1)→pb (k+1) (pF rest left l out)
 |[],out,h,_=>h
 |c::cs,out,h,hc=>by
  unfold pF;split
  ·exact h
  ·refine Y6 hr ?_ fun c hm=>hc c (by simp[hm])
   have h1:=hr (left-c.cd);obtain⟨c1,c2,c3⟩:=hc c (by simp)
   have ok:∀p s f,pb k (some (p,s,f))→pb (k+1) (some (p+c.jq,s+c.jr,c.cd)):=fun p s f q=>by
    simp only[pb]at q ⊢;omega
   unfold cS;split
   ·exact h
   ·rename_i p s f e
    rw[e]at h1;split
    ·exact ok _ _ _ h1
    ·split
     ·exact ok _ _ _ h1
     ·exact h
theorem DF{α:Type}[Inhabited α]{l:List α}{a:α}(h:a∈l):∃i,i<l.length∧nth l i=a:=by
 obtain⟨i,hi,rfl⟩:=List.getElem_of_mem h;exact⟨i,hi,by simp[nth,hi]⟩
theorem Y7:∀{LL:List (List Ch)} {left:Int},(∀l∈LL,∀c∈l,0≤c.cd∧(0≤c.jq∧c.jq≤1073741824)∧0≤c.jr∧c.jr≤1)→pb LL.length (js LL left)
 |[],left,_=>by simp[js,pb]
 |l::ls,left,h=>by
  have:=Y6 (left:=left) (k:=ls.length) (l:=l) (out:=none) (fun x=>Y7 (LL:=ls) (left:=x) fun l hl=>h l (by simp[hl])) trivial (h l (by simp))
  simpa [js] using this
theorem Lb.all{LL:List (List Ch)}(h:Lb LL):∀l∈LL,∀c∈l,0≤c.cd∧(0≤c.jq∧c.jq≤1073741824)∧0≤c.jr∧c.jr≤1:=by
 intro l hl c hc;obtain⟨i,hi,rfl⟩:=DF hl;obtain⟨j,hj,rfl⟩:=DF hc;exact⟨(h.cd i j hi hj).1,h.jq i j hi hj,h.jr i j hi hj⟩
theorem Lb.pb{LL:List (List Ch)}(h:Lb LL)(i:Nat)(left:Int):pb (LL.length:Int) (js (LL.drop i) left):=by
 have h1:=Y7 (LL:=LL.drop i) (left:=left) (fun l hl=>h.all l (List.mem_of_mem_drop hl));cases hb:js (LL.drop i) left with
 |none=>trivial
 |some q =>
  obtain⟨p,s,f⟩:=q;rw[hb]at h1;simp only[Go.Proofs.YtocclbnghhaejaaGreat.pb]at h1 ⊢;have:(LL.drop i).length≤LL.length:=by simp
  omega
theorem O3{LL:List (List Ch)}{i:Nat}(h:i<LL.length)(left:Int):js (LL.drop i) left=pF (js (LL.drop (i+1))) left (nth LL i) none:=by
 rw[mc h];rfl
theorem alS(a b:Int):V.mo true [0,0] (.agg [i64 a,i64 b]) (.agg [i64 a,i64 b])=some true:=by simp[V.mo,eu,kq]
theorem alT{LL:List (List Ch)}(hL:Lb LL):∀(k i:Nat) (left:Int) (m:z7),k=LL.length-i→i≤LL.length→0≤left→left≤1073741824→wD LL m →
  ∃m',aX F 237 [i64 i,i64 left,.bG 0 0,.bG 2 0,.bG 3 0] (gl 237 LL m)=some (me (js (LL.drop i) left),gl 237 LL m')∧wD LL m':=by
 intro k;induction k with
 |zero =>
  intro i left m hk hi h0 h1 hm;obtain rfl:i=LL.length:=by omega
  refine⟨m,bM rfl rfl ?_,hm⟩;rw[List.drop_length,js];simp (disch:=omega) [-getElem?_pos,wrap64,F4,gl];rfl
 |succ k ih =>
  intro i left m hk hi h0 h1 hm
  suffices h:∀Q:V→List aP→Prop,(∀m',wD LL m'→Q (me (js (LL.drop i) left)) (gl 237 LL m'))→gy (aX F) 237 [i64 i,i64 left,.bG 0 0,.bG 2 0,.bG 3 0] (gl 237 LL m) Q by
   obtain⟨_,_,h,m',h1,rfl,rfl⟩:=h (fun v G=>∃m',wD LL m'∧v=me (js (LL.drop i) left)∧G=gl 237 LL m') fun m' a=>⟨m',a,rfl,rfl⟩;exact⟨m',h,h1⟩
  intro Q hQ;refine gS rfl rfl ?_;have bA:i<LL.length:=by omega
  have vx:¬(i:Int)=LL.length:=by omega
  have mP:=alS i left;have DC:=hL.jo;rcases O2 (LL:=LL) (i:=i) (left:=left) (m:=m) (k:=0) hm with hf | ⟨j,hf,hj⟩
  ·rw[O3 bA left]at hQ
   generalize hW:pF (js (LL.drop (i+1))) left (nth LL i) none=W at hQ;have hn:=hL.each i bA;simp (disch:=omega) [-getElem?_pos,wrap64,F4,gl,vx,mP,hf,aW (l:=LL)];have wh:∀(out:Part) (m:z7),out=W→wD LL m→(mq true [0,0] (.agg [i64 i,i64 left]) (qP m) 0=some none∧∃m',wD LL m'∧qP m++[(.agg [i64 i,i64 left],me out)]=qP m') ∨
     ∃j v,mq true [0,0] (.agg [i64 i,i64 left]) (qP m) 0=some (some (j,v))∧∃m',wD LL m'∧(qP m).set j (.agg [i64 i,i64 left],me out)=qP m':=by
    rintro out m rfl hm;rw[←O3 bA left]at hW;rcases O2 (LL:=LL) (i:=i) (left:=left) (m:=m) (k:=0) hm with h5 | ⟨j,h5,hj⟩
    ·refine .inl ⟨h5,m++[(((i:Int),left),out)],fun e he=>?_,by simp[qP]⟩
     rcases List.mem_append.1 he with h6|h6
     ·exact hm e h6
     ·obtain rfl:=List.mem_singleton.1 h6
      exact⟨i,rfl,hW.symm⟩
    ·refine .inr ⟨_,_,h5,m.set (0+j) (((i:Int),left),out),fun e he=>?_,by simp[qP,List.map_set]⟩
     rcases List.mem_or_eq_of_mem_set he with h6|rfl
     ·exact hm e h6
     ·exact⟨i,rfl,hW.symm⟩
   refine go_loop (fun x:Nat×Part×z7=>ala i left (.bG 2 0) (.bG 3 0) (.slice none 3 ((nth LL i).map Ch.row)) (nth LL i).length x.1 [.bool false,i64 0,i64 0,i64 0] (ja x.2.1) (gl 237 LL x.2.2))
    (fun x=>x.1≤(nth LL i).length∧pF (js (LL.drop (i+1))) left ((nth LL i).drop x.1) x.2.1=W∧wD LL x.2.2) (fun x=>(nth LL i).length-x.1) (0,none,m) rfl (by simp[gl,ja]) ⟨by omega,by simpa using hW,hm⟩ ?_
   rintro⟨j,out,m⟩ ⟨hj,hq,hm⟩;simp only at hj hq hm;simp (disch:=omega) [-getElem?_pos,wrap64,Yr,gl];refine bE (fun h2=>?_) (fun h2=>?_)
   ·have h2:j<(nth LL i).length:=by omega
    have a1:=hL.cd i j bA h2;have a2:=hL.jq i j bA h2;have a3:=hL.jr i j bA h2;rw[mc h2,pF]at hq;have gt:=aW h2;simp (disch:=omega) [-getElem?_pos,wrap64,gt];refine bE (fun h3=>?_) (fun h3=>?_)
    ·rw[if_pos h3]at hq
     rcases wh out m hq hm with⟨g1,m2,g2,g3⟩ | ⟨j2,v2,g1,m2,g2,g3⟩
     ·have:=hQ m2 g2
      cases og:W with
      |none =>
       rw[hq]at g3;rw[og]at this g3;simp only[gl,← g3,me,ja]at this;simp (disch:=omega) [-getElem?_pos,wrap64,hq,og,ja,mP,g1];exact this
      |some q =>
       obtain⟨p,s,f⟩:=q;rw[hq]at g3;rw[og]at this g3;simp only[gl,← g3,me,ja]at this;simp (disch:=omega) [-getElem?_pos,wrap64,hq,og,ja,mP,g1];exact this
     ·have:=hQ m2 g2
      cases og:W with
      |none =>
       rw[hq]at g3;rw[og]at this g3;simp only[gl,← g3,me,ja]at this;simp (disch:=omega) [-getElem?_pos,wrap64,hq,og,ja,mP,g1];exact this
      |some q =>
       obtain⟨p,s,f⟩:=q;rw[hq]at g3;rw[og]at this g3;simp only[gl,← g3,me,ja]at this;simp (disch:=omega) [-getElem?_pos,wrap64,hq,og,ja,mP,g1];exact this
    ·obtain⟨m',hI,ub⟩:=ih (i+1) (left-(nth (nth LL i) j).cd) m (by omega) (by omega) (by omega) (by omega) hm
     have hp:=hL.pb (i+1) (left-(nth (nth LL i) j).cd);rw[if_neg h3]at hq;unfold cS at hq;simp only[gl]at hI
     push_cast at hI
     cases hb:js (LL.drop (i+1)) (left-(nth (nth LL i) j).cd) with
     |none =>
      rw[hb]at hI hp hq;simp only[me,ja]at hI;simp only at hq;simp (disch:=omega) [-getElem?_pos,wrap64,hI];exact bF (j+1,out,m') (by simp[gl]) ⟨by omega,hq,ub⟩ (by simp;omega)
     |some q =>
      obtain⟨p,s,f⟩:=q;rw[hb]at hI hp hq;simp only[me,ja]at hI;simp only at hq;simp only[pb]at hp;have hB:=fun a b=>alO a b [] [] (by simp) []
      simp only[ints,List.map_nil]at hB;cases out with
      |none =>
       simp only at hq;simp (disch:=omega) [-getElem?_pos,wrap64,hI,ja];exact bF (j+1,some (p+(nth (nth LL i) j).jq,s+(nth (nth LL i) j).jr,(nth (nth LL i) j).cd),m') (by simp[gl,ja]) ⟨by omega,hq,ub⟩ (by simp;omega)
      |some o =>
       obtain⟨p',s',f'⟩:=o;simp only at hq;by_cases xY:jU (p+(nth (nth LL i) j).jq,s+(nth (nth LL i) j).jr) (p',s') [] []
       ·rw[if_pos xY]at hq
        have hB:=hB (p+(nth (nth LL i) j).jq,s+(nth (nth LL i) j).jr) (p',s');simp (disch:=omega) [-getElem?_pos,wrap64,hI,ja,hB,xY];exact bF (j+1,some (p+(nth (nth LL i) j).jq,s+(nth (nth LL i) j).jr,(nth (nth LL i) j).cd),m') (by simp[gl,ja]) ⟨by omega,hq,ub⟩ (by simp;omega)
       ·rw[if_neg xY]at hq
        have hB:=hB (p+(nth (nth LL i) j).jq,s+(nth (nth LL i) j).jr) (p',s');simp (disch:=omega) [-getElem?_pos,wrap64,hI,ja,hB,xY];exact bF (j+1,some (p',s',f'),m') (by simp[gl,ja]) ⟨by omega,hq,ub⟩ (by simp;omega)
   ·obtain rfl:j=(nth LL i).length:=by omega
    rw[List.drop_length,pF]at hq;rcases wh out m hq hm with⟨g1,m2,g2,g3⟩ | ⟨j2,v2,g1,m2,g2,g3⟩
    ·have:=hQ m2 g2
     cases og:W with
     |none =>
      rw[hq]at g3;rw[og]at this g3;simp only[gl,← g3,me,ja]at this;simp (disch:=omega) [-getElem?_pos,wrap64,hq,og,ja,mP,g1];exact this
     |some q =>
      obtain⟨p,s,f⟩:=q;rw[hq]at g3;rw[og]at this g3;simp only[gl,← g3,me,ja]at this;simp (disch:=omega) [-getElem?_pos,wrap64,hq,og,ja,mP,g1];exact this
    ·have:=hQ m2 g2
     cases og:W with
     |none =>
      rw[hq]at g3;rw[og]at this g3;simp only[gl,← g3,me,ja]at this;simp (disch:=omega) [-getElem?_pos,wrap64,hq,og,ja,mP,g1];exact this
     |some q =>
      obtain⟨p,s,f⟩:=q;rw[hq]at g3;rw[og]at this g3;simp only[gl,← g3,me,ja]at this;simp (disch:=omega) [-getElem?_pos,wrap64,hq,og,ja,mP,g1];exact this
  ·cases hb:js (LL.drop i) left with
   |none =>
    rw[hb]at hf hQ;simp only[me,ja]at hf;simp (disch:=omega) [-getElem?_pos,wrap64,F4,gl,vx,mP,hf];exact hQ m hm
   |some q =>
    obtain⟨p,s,f⟩:=q;rw[hb]at hf hQ;simp only[me,ja]at hf;simp (disch:=omega) [-getElem?_pos,wrap64,F4,gl,vx,mP,hf];exact hQ m hm
noncomputable def Gj(g:Int)(u:Un)(s:Us):List Ch:=(p7 u s g).map fun q=>⟨q,pow u q,iw s q⟩
noncomputable def jb(us:List Un)(ss:List Us)(g:Int):List (List Ch):=List.zipWith (Gj g) us ss
theorem alU(us:List Un)(ss:List Us)(g:Int):List.zipWith (Gg g) us ss=(jb us ss g).map O1:=by
 rw[jb,List.map_zipWith];congr 1;funext u s;simp[Gj,Gg,O1]
theorem O4{u:Un}{g:Int}(h:gA u g=0):(eY u g).length≤200:=by
 unfold gA at h;split at h
 ·contradiction
 ·split at h
  ·cases h
  ·split at h
   ·cases h
   ·omega
theorem alV{u:Un}{s:Us}{g:Int}(h:gA u g=0):(p7 u s g).length≤202:=by
 have h1:=O4 h;have h2:=Df (nb (eY u g++[0,s.cd]));have h3:=(zN (eY u g++[0,s.cd])).length_eq;have h4:(p7 u s g).length≤(dedup (nb (eY u g++[0,s.cd]))).length:=List.length_filter_le _ _;simp at h3;omega
structure JD(us:List Un)(ss:List Us)(g:Int):Prop where
 jo:us.length≤6
 len:us.length=ss.length
 valid:BF us ss
 avu:1≤g∧g≤1073741824
 Y8:BG us g
theorem O5{us:List Un}{ss:List Us}{g release:Int}(h:p9 us ss g release=0):JD us ss g∧(0≤release∧release≤1073741824)∧release≤200*g:=by
 unfold p9 at h;split at h
 ·cases h
 ·split at h
  ·cases h
  ·split at h
   ·cases h
   ·split at h
    ·cases h
    ·split at h
     ·cases h
     ·split at h
      ·cases h
      ·rename_i h1 h2 h3 h4 h5 h6
       exact⟨⟨by omega,Decidable.of_not_not h2,Decidable.of_not_not h3,by omega,Decidable.of_not_not h6⟩,by omega,by omega⟩
theorem O6{us:List Un}{ss:List Us}{g:Int}(h:us.length=ss.length):(jb us ss g).length=us.length:=by simp[jb,h]
theorem wF{α β:Type}[Inhabited α][Inhabited β]{f:α→β}{l:List α}{i:Nat}(h:i<l.length):nth (l.map f) i=f (nth l i):=by
 simp[nth,h]
theorem DG{α β γ:Type}[Inhabited α][Inhabited β][Inhabited γ]{f:α→β→γ}{a:List α}{b:List β}{i:Nat}(h1:i<a.length)(h2:i<b.length):nth (List.zipWith f a b) i=f (nth a i) (nth b i):=by
 simp[nth,List.getElem?_zipWith,h1,h2]
theorem oK{α:Type}[Inhabited α]{l:List α}{i:Nat}(h:i<l.length):nth l i∈l:=List.mem_of_getElem? (aW h)
theorem Y9{us:List Un}{ss:List Us}{g:Int}(h:JD us ss g):Lb (jb us ss g):=by
 have hl:=h.len;have e:∀i,i<(jb us ss g).length→nth (jb us ss g) i=Gj g (nth us i) (nth ss i):=fun i hi=>by
  rw[O6 hl]at hi;exact DG hi (by omega)
 have c:∀i j,i<(jb us ss g).length→j<(nth (jb us ss g) i).length→∃q,jH (nth us i) (nth ss i) q∧nth (nth (jb us ss g) i) j=⟨q,pow (nth us i) q,iw (nth ss i) q⟩:=fun i j hi hj=>by
  rw[e i hi]at hj ⊢;have tP:j<(p7 (nth us i) (nth ss i) g).length:=by simpa [Gj] using hj
  refine⟨nth (p7 (nth us i) (nth ss i) g) j,?_,wF tP⟩;have:=oK tP;simp only[p7,List.mem_filter,decide_eq_true_eq]at this;exact this.2
 refine⟨by rw[O6 hl];exact h.jo,fun i hi=>?_,fun i j hi hj=>?_,fun i j hi hj=>?_,fun i j hi hj=>?_⟩
 ·rw[e i hi]
  rw[O6 hl]at hi;have:=alV (s:=nth ss i) (h.Y8 i hi);simp[Gj];omega
 ·obtain⟨q,h1,h2⟩:=c i j hi hj
  rw[h2];exact Jz h1
 ·obtain⟨q,h1,h2⟩:=c i j hi hj
  rw[h2];exact JA
 ·obtain⟨q,h1,h2⟩:=c i j hi hj
  rw[h2];exact OZ
noncomputable def kh(us:List Un)(ss:List Us)(g release:Int):Int:=if p9 us ss g release≠0 then p9 us ss g release else if mF (jb us ss g) release=none then 9 else 0
noncomputable def hH(us:List Un)(ss:List Us)(g release:Int):List Int:=if p9 us ss g release≠0 then [] else (mF (jb us ss g) release).getD []
theorem Za{LL:List (List Ch)}:∀{l:List Ch} {rest:Int→Part} {left:Int} {out:Part} {p s f:Int},(∀q t e,out=some (q,t,e)→e≤left)→pF rest left l out=some (p,s,f)→f≤left
 |[],rest,left,out,p,s,f,h,he=>h _ _ _ (by simpa [pF] using he)
 |c::cs,rest,left,out,p,s,f,h,he=>by
  unfold pF at he;split at he
  ·exact h _ _ _ he
  ·refine Za (LL:=LL) (fun q t e hq=>?_) he
   unfold cS at hq;split at hq
   ·exact h _ _ _ hq
   ·split at hq
    ·cases hq;omega
    ·split at hq
     ·cases hq;omega
     ·cases hq;exact h _ _ _ rfl
theorem alW(us:List Un)(ss:List Us)(g release:Int):∃G',aX F 225 [ke us,jT ss,i64 g,i64 release] []=some (.tuple [own (hH us ss g release),i64 (kh us ss g release)],G'):=by
 suffices h:∀Q:V→List aP→Prop,(∀G,Q (.tuple [own (hH us ss g release),i64 (kh us ss g release)]) G)→gy (aX F) 225 [ke us,jT ss,i64 g,i64 release] [] Q by
  obtain⟨_,_,h,rfl⟩:=h (fun v _=>v=.tuple [own (hH us ss g release),i64 (kh us ss g release)]) fun _=>rfl;exact⟨_,h⟩
 intro Q hQ;refine gS rfl rfl ?_;have hS:=alR us ss g release [];by_cases h0:p9 us ss g release=0
 ·rw[h0,if_pos rfl,alU]at hS
  obtain⟨h1,h2,h3⟩:=O5 h0;have hL:=Y9 h1;have eL:hH us ss g release=(mF (jb us ss g) release).getD []:=by simp[hH,h0]
  have eE:kh us ss g release=if mF (jb us ss g) release=none then 9 else 0:=by simp[kh,h0]
  rw[eL,eE]at hQ;have DC:=hL.jo;generalize hLL:jb us ss g=LL at *;simp (disch:=omega) [wrap64,On,hS];refine go_loop (fun x:List Int×Int×z7=>akU (.bG 0 0) (.bG 3 0) (.slice (some 1048) 1 (x.1.map fun n=>[i64 n])) x.2.1 x.1.length (gl 237 LL x.2.2))
   (fun x=>x.1.length≤LL.length∧(0≤x.2.1∧x.2.1≤1073741824)∧(mF (LL.drop x.1.length) x.2.1).map (x.1 ++ ·)=mF LL release∧wD LL x.2.2) (fun x=>LL.length-x.1.length) ([],release,[]) rfl (by simp[gl,qP]) ⟨by simp,by simpa using h2,by simp,fun e he=>by simp at he⟩ ?_
  rintro⟨fs,left,m⟩ ⟨i1,i2,i3,i4⟩;simp only at i1 i2 i3 i4;simp (disch:=omega) [wrap64,Ye,gl];refine bE (fun h4=>?_) (fun h4=>?_)
  ·have h4:fs.length<LL.length:=by omega
   obtain⟨m',hI,ub⟩:=alT hL (LL.length-fs.length) fs.length left m rfl i1 i2.1 i2.2 i4;have hp:=hL.pb fs.length left;have hd:LL.drop fs.length=nth LL fs.length::LL.drop (fs.length+1):=mc h4;rw[hd,mF,← hd]at i3;cases hb:js (LL.drop fs.length) left with
   |none =>
    rw[hb]at hI i3;simp only[me,ja,gl]at hI;simp only[Option.map_none]at i3;rw[←i3]at hQ;simp only[if_true,Option.getD_none]at hQ;simp (disch:=omega) [wrap64,hI];exact hQ _
   |some q =>
    obtain⟨p,s,f⟩:=q;rw[hb]at hI i3 hp;have hf:f≤left:=by
     rw[O3 h4]at hb;exact Za (LL:=LL) (fun q t e hq=>by cases hq) hb
    simp only[me,ja,gl]at hI;simp only[pb]at hp;simp only at i3;simp (disch:=omega) [wrap64,hI];refine bF (fs++[f],left-f,m') (by simp[gl]) ⟨by simp;omega,by simp;omega,?_,ub⟩ (by simp;omega)
    rw[←i3];simp[Function.comp_def]
  ·have e:fs.length=LL.length:=by omega
   rw[e,List.drop_length,mF]at i3;simp only[Option.map_some,List.append_nil]at i3;rw[←i3]at hQ;simpa using hQ _
 ·rw[if_neg h0]at hS
  have eL:hH us ss g release=[]:=by simp[hH,h0]
  have eE:kh us ss g release=p9 us ss g release:=by simp[kh,h0]
  rw[eL,eE]at hQ;simp (disch:=omega) [wrap64,On,hS,h0];exact hQ _
end Go.Proofs.YtocclbnghhaejaaGreat
namespace Go.Proofs.YtocclbnghhaejaaGreat
set_option linter.all false
open Go.Vm
def vy(a b:Int×Int):Prop:=b.1<a.1∨(a.1=b.1∧a.2<b.2)
theorem xZ{a b:Int×Int}{p q:List Int}:jU a b p q↔vy a b∨(a.1=b.1∧a.2=b.2∧gu p q<0):=by
 unfold jU vy;split
 ·omega
 ·split<;>omega
theorem alY{a:Int}{p q:List Int}:gu (a::p) (a::q)=gu p q:=by simp[gu]
theorem alZ{a b:Int}{p q:List Int}(h:b<a):¬gu (a::p) (b::q)<0:=by
 simp only[gu];rw[if_neg (by omega),if_pos h]
 omega
def ug:List (List Ch)→List Ch→Prop
 |[],[]=>True
 |l::ls,c::P=>c∈l∧ug ls P
 |_,_=>False
def sF(P:List Ch):Int:=(P.map Ch.cd).sum
def sP(P:List Ch):Int:=(P.map Ch.jq).sum
def sS(P:List Ch):Int:=(P.map Ch.jr).sum
theorem al0{LL:List (List Ch)}:∀{P:List Ch},(∀l∈LL,∀c∈l,0≤c.cd)→ug LL P→0≤sF P:=by
 induction LL with
 |nil=>intro P _ hp;cases P with
  |nil=>simp[sF]
  |cons c P=>exact hp.elim
 |cons l ls ih =>
  intro P h hp;cases P with
  |nil=>exact hp.elim
  |cons c P =>
   have h1:=ih (fun l hl=>h l (by simp[hl])) hp.2
   have h2:=h l (by simp) c hp.1
   simp only[sF,List.map_cons,List.sum_cons]at h1 ⊢;omega
structure Top(LL:List (List Ch))(left:Int)(P:List Ch):Prop where
 BH:ug LL P
 sum:sF P≤left
 best:∀Q,ug LL Q→sF Q≤left→¬jU (sP Q,sS Q) (sP P,sS P) (Q.map Ch.cd) (P.map Ch.cd)
structure Jn(ls:List (List Ch))(left:Int)(pre:List Ch)(p s f:Int)(c:Ch)(P:List Ch):Prop where
 mem:c∈pre
 cd:c.cd=f
 BH:ug ls P
 sum:c.cd+sF P≤left
 jq:c.jq+sP P=p
 jr:c.jr+sS P=s
 rest:mF ls (left-f)=some (P.map Ch.cd)
 best:∀d∈pre,∀Q,ug ls Q→d.cd+sF Q≤left→¬jU (d.jq+sP Q,d.jr+sS Q) (p,s) (d.cd::Q.map Ch.cd) (c.cd::P.map Ch.cd)
def J(ls:List (List Ch))(left:Int)(pre:List Ch):Part→Prop
 |none=>∀c∈pre,∀Q,ug ls Q→left<c.cd+sF Q
 |some (p,s,f)=>∃c P,Jn ls left pre p s f c P
theorem Zb{ls:List (List Ch)}{left:Int}{pre:List Ch}{out:Part}{l:List Ch}(h:J ls left pre out)(hn:∀c∈l,∀Q,ug ls Q→left<c.cd+sF Q):J ls left (pre++l) out:=by
 cases out with
 |none =>
  intro c hc Q hQ;rcases List.mem_append.1 hc with h1|h1
  ·exact h c h1 Q hQ
  ·exact hn c h1 Q hQ
 |some q =>
  obtain⟨p,s,f⟩:=q;obtain⟨c,P,j⟩:=h;refine⟨c,P,⟨by simp[j.mem],j.cd,j.BH,j.sum,j.jq,j.jr,j.rest,fun d hd Q hQ hs=>?_⟩⟩
  rcases List.mem_append.1 hd with h1|h1
  ·exact j.best d h1 Q hQ hs
  ·have:=hn d h1 Q hQ
   omega
def Good(ls:List (List Ch)):Prop:=∀left,0≤left→match js ls left with
 |none=>∀Q,ug ls Q→left<sF Q
 |some (p,s,_)=>∃P,Top ls left P∧sP P=p∧sS P=s∧mF ls left=some (P.map Ch.cd)
theorem al3{ls:List (List Ch)}(hg:Good ls){left:Int}{pre:List Ch}{out:Part}{c:Ch}(h:J ls left pre out)(JE:∀d∈pre,d.cd<c.cd)(hle:c.cd≤left):J ls left (pre++[c]) (cS (js ls) left c out):=by
 have hg:=hg (left-c.cd) (by omega)
 unfold cS;cases hb:js ls (left-c.cd) with
 |none =>
  rw[hb]at hg;exact Zb h fun d hd Q hQ=>by
   obtain rfl:=List.mem_singleton.1 hd;have:=hg Q hQ;omega
 |some q =>
  obtain⟨p0,s0,f0⟩:=q;rw[hb]at hg;obtain⟨P0,t,rfl,rfl,e0⟩:=hg;have new:∀d∈[c],∀Q,ug ls Q→d.cd+sF Q≤left→¬jU (d.jq+sP Q,d.jr+sS Q) (sP P0+c.jq,sS P0+c.jr) (d.cd::Q.map Ch.cd) (c.cd::P0.map Ch.cd):=by
   intro d hd Q hQ hs vA;obtain rfl:=List.mem_singleton.1 hd;refine t.best Q hQ (by omega) ?_
   rw[xZ]at vA ⊢;rw[alY]at vA;unfold vy at vA ⊢;simp only at vA ⊢;omega
  have ts:=t.sum;cases out with
  |none =>
   simp only;refine⟨c,P0,⟨by simp,rfl,t.BH,by omega,by omega,by omega,e0,fun d hd Q hQ hs=>?_⟩⟩
   rcases List.mem_append.1 hd with h1|h1
   ·have:=h d h1 Q hQ;omega
   ·exact new d h1 Q hQ hs
  |some o =>
   obtain⟨p,s,f⟩:=o;obtain⟨c1,P1,j⟩:=h;simp only;split
   ·rename_i vA
    rw[xZ]at vA;have hv:vy (sP P0+c.jq,sS P0+c.jr) (p,s):=by
     rcases vA with h|h
     ·exact h
     ·simp[gu]at h
    unfold vy at hv;simp only at hv;refine⟨c,P0,⟨by simp,rfl,t.BH,by omega,by omega,by omega,e0,fun d hd Q hQ hs=>?_⟩⟩
    rcases List.mem_append.1 hd with h1|h1
    ·have:=j.best d h1 Q hQ hs
     rw[xZ]at this ⊢;unfold vy at this ⊢;simp only at this ⊢;omega
    ·exact new d h1 Q hQ hs
   ·rename_i vA
    rw[xZ]at vA;unfold vy at vA;simp only at vA;refine⟨c1,P1,⟨by simp[j.mem],j.cd,j.BH,j.sum,j.jq,j.jr,j.rest,fun d hd Q hQ hs=>?_⟩⟩
    rcases List.mem_append.1 hd with h1|h1
    ·exact j.best d h1 Q hQ hs
    ·have h2:=new d h1 Q hQ hs
     obtain rfl:=List.mem_singleton.1 h1;have h3:=alZ (p:=Q.map Ch.cd) (q:=P1.map Ch.cd) (JE c1 j.mem);rw[xZ]at h2 ⊢;unfold vy at h2 ⊢;simp only at h2 ⊢;omega
theorem Zc{ls:List (List Ch)}(hg:Good ls)(h0:∀l∈ls,∀c∈l,0≤c.cd){left:Int}:∀{cs pre:List Ch} {out:Part},(pre++cs).Pairwise (fun a b=>a.cd<b.cd)→J ls left pre out→J ls left (pre++cs) (pF (js ls) left cs out)
 |[],pre,out,_,h=>by simpa [pF] using h
 |c::cs,pre,out,hp,h=>by
  have xd:=List.pairwise_append.1 hp;unfold pF;split
  ·rename_i bA
   refine Zb h fun d hd Q hQ=>?_;have:=al0 h0 hQ;rcases List.mem_cons.1 hd with rfl|h1
   ·omega
   ·have:=(List.pairwise_cons.1 xd.2.1).1 d h1
    omega
  ·have h1:=al3 hg h (c:=c) (fun d hd=>xd.2.2 d hd c (by simp)) (by omega)
   have h2:=Zc hg h0 (cs:=cs) (pre:=pre++[c]) (by simpa using hp) h1
   simpa using h2
def Zd(LL:List (List Ch)):Prop:=∀l∈LL,l.Pairwise fun a b=>a.cd<b.cd
theorem Ze:∀{LL:List (List Ch)},(∀l∈LL,∀c∈l,0≤c.cd)→Zd LL→Good LL
 |[],_,_=>fun left h0=>by
  simp only[js];refine⟨[],⟨trivial,by simpa [sF] using h0,fun Q hQ _=>?_⟩,rfl,rfl,rfl⟩
  cases Q with
  |nil=>simp[jU,gu]
  |cons c Q=>exact hQ.elim
 |l::ls,h0,ha=>fun left mB=>by
  have hg:Good ls:=Ze (fun l hl=>h0 l (by simp[hl])) (fun l hl=>ha l (by simp[hl]))
  have hj:=Zc hg (fun l hl=>h0 l (by simp[hl])) (left:=left) (cs:=l) (pre:=[]) (out:=none) (by simpa using ha l (by simp)) (fun c hc=>by simp at hc)
  simp only[List.nil_append]at hj;have e:js (l::ls) left=pF (js ls) left l none:=rfl;rw[e];cases hb:pF (js ls) left l none with
  |none =>
   rw[hb]at hj;intro Q hQ;cases Q with
   |nil=>exact hQ.elim
   |cons c Q =>
    have:=hj c hQ.1 Q hQ.2;simpa [sF] using this
  |some q =>
   obtain⟨p,s,f⟩:=q;rw[hb]at hj;obtain⟨c,P,j⟩:=hj;have j4:=j.sum;have j5:=j.jq;have j6:=j.jr;refine⟨c::P,⟨⟨j.mem,j.BH⟩,by simpa [sF] using j4,fun Q hQ hs=>?_⟩,by simpa [sP] using j5,by simpa [sS] using j6,?_⟩
   ·cases Q with
    |nil=>exact hQ.elim
    |cons d Q =>
     have:=j.best d hQ.1 Q hQ.2 (by simpa [sF] using hs)
     have e1:sP (c::P)=p:=by simpa [sP] using j5
     have e2:sS (c::P)=s:=by simpa [sS] using j6
     rw[e1,e2];simpa [sP,sS] using this
   ·rw[mF,e,hb]
    simp only;rw[j.rest];simp[j.cd]
end Go.Proofs.YtocclbnghhaejaaGreat
namespace Go.Proofs.YtocclbnghhaejaaGreat
set_option linter.all false
open Go.Vm
theorem O7{x:Int}:∀{l:List Int},x∈dedup l↔x∈l
 |[]=>Iff.rfl
 |[a]=>Iff.rfl
 |a::b::r=>by
  have ih:=O7 (x:=x) (l:=b::r);unfold dedup;by_cases h:a=b
  ·simp only[h,beq_self_eq_true,cond_true,ih]
   simp
  ·have h':(a==b)=false:=by simpa using h
   simp only[h',cond_false,List.mem_cons,ih]
theorem Zh:∀{l:List Int},l.Pairwise (· ≤ ·)→(dedup l).Pairwise (· < ·)
 |[],_=>.nil
 |[a],_=>by simp[dedup]
 |a::b::r,h=>by
  obtain⟨h1,h2⟩:=List.pairwise_cons.1 h;have ih:=Zh h2;unfold dedup;by_cases qO:a=b
  ·simp only[qO,beq_self_eq_true,cond_true]
   exact ih
  ·have h':(a==b)=false:=by simpa using qO
   simp only[h',cond_false,List.pairwise_cons];refine⟨fun x hx=>?_,ih⟩;rw[O7]at hx;have h3:=h1 b (by simp)
   rcases List.mem_cons.1 hx with rfl|h4
   ·omega
   ·have:=(List.pairwise_cons.1 h2).1 x h4
    omega
theorem DH{u:Un}{s:Us}{g q:Int}:q∈p7 u s g↔(q∈eY u g∨q=0∨q=s.cd)∧jH u s q:=by
 simp only[p7,List.mem_filter,O7,(zN _).mem_iff,decide_eq_true_eq,List.mem_append,List.mem_cons,List.not_mem_nil,or_false]
theorem al5{u:Un}{s:Us}{g:Int}:(p7 u s g).Pairwise (· < ·):=(Zh (M6 _)).filter _
def mf(g:Int):List Un→List Us→List Int→Prop
 |u::us,s::ss,q::F=>q∈p7 u s g∧mf g us ss F
 |[],[],[]=>True
 |_,_,_=>False
noncomputable def iG:List Un→List Int→Int
 |u::us,q::F=>pow u q+iG us F
 |_,_=>0
def iH:List Us→List Int→Int
 |s::ss,q::F=>iw s q+iH ss F
 |_,_=>0
noncomputable def uh:List Un→List Us→List Int→List Ch
 |u::us,s::ss,q::F=>⟨q,pow u q,iw s q⟩::uh us ss F
 |_,_,_=>[]
theorem BI{g:Int}:∀{us:List Un} {ss:List Us} {F:List Int},mf g us ss F→F.length=us.length∧F.length=ss.length
 |[],[],[],_=>⟨rfl,rfl⟩
 |_::_,_::_,_::_,h=>by have:=BI h.2;simp;omega
 |[],_::_,_,h=>h.elim
 |[],[],_::_,h=>h.elim
 |_::_,[],_,h=>h.elim
 |_::_,_::_,[],h=>h.elim
theorem JF{g:Int}:∀{us:List Un} {ss:List Us} {F:List Int},mf g us ss F→ug (jb us ss g) (uh us ss F)∧(uh us ss F).map Ch.cd=F∧sF (uh us ss F)=F.sum∧sP (uh us ss F)=iG us F∧sS (uh us ss F)=iH ss F
 |[],[],[],_=>⟨trivial,rfl,rfl,rfl,rfl⟩
 |u::us,s::ss,q::F,h=>by
  obtain⟨h1,h2,h3,h4,h5⟩:=JF h.2;refine⟨⟨List.mem_map.2 ⟨q,h.1,rfl⟩,h1⟩,by simp[uh,h2],?_,?_,?_⟩
  ·simp only[sF]at h3 ⊢;simp[uh,h3]
  ·simp only[sP]at h4 ⊢;simp[uh,iG,h4]
  ·simp only[sS]at h5 ⊢;simp[uh,iH,h5]
 |[],_::_,_,h=>h.elim
 |[],[],_::_,h=>h.elim
 |_::_,[],_,h=>h.elim
 |_::_,_::_,[],h=>h.elim
theorem Zi{g:Int}:∀{us:List Un} {ss:List Us} {P:List Ch},us.length=ss.length→ug (jb us ss g) P→mf g us ss (P.map Ch.cd)∧P=uh us ss (P.map Ch.cd)
 |[],[],[],_,_=>⟨trivial,rfl⟩
 |[],[],_::_,_,h=>h.elim
 |[],_::_,_,h,_=>by simp at h
 |_::_,[],_,h,_=>by simp at h
 |_::_,_::_,[],_,h=>h.elim
 |u::us,s::ss,c::P,hl,h=>by
  obtain⟨h1,h2⟩:=Zi (by simpa using hl) h.2
  obtain⟨q,hq,rfl⟩:=List.mem_map.1 h.1;exact⟨⟨hq,h1⟩,by simp[uh];exact h2⟩
structure BJ(g:Int)(us:List Un)(ss:List Us)(left:Int)(F:List Int):Prop where
 mf:mf g us ss F
 sum:F.sum≤left
 best:∀E,Go.Proofs.YtocclbnghhaejaaGreat.mf g us ss E→E.sum≤left→¬jU (iG us E,iH ss E) (iG us F,iH ss F) E F
theorem Zj{g:Int}:∀{us:List Un} {ss:List Us},Zd (jb us ss g)
 |[],_=>fun l hl=>by simp[jb]at hl
 |_::_,[]=>fun l hl=>by simp[jb]at hl
 |u::us,s::ss=>fun l hl=>by
  rcases List.mem_cons.1 hl with rfl|h
  ·exact List.pairwise_map.2 al5
  ·exact Zj (us:=us) (ss:=ss) l h
theorem Zk{us:List Un}{ss:List Us}{g left:Int}(hs:JD us ss g)(h0:0≤left) :
  match mF (jb us ss g) left with
  |none=>∀F,mf g us ss F→left<F.sum
  |some F=>BJ g us ss left F:=by
 have hL:=Y9 hs;have hn:∀l∈jb us ss g,∀c∈l,0≤c.cd:=fun l hl c hc=>(hL.all l hl c hc).1;have hg:=Ze hn Zj;have AR:=hg left h0;cases hb:js (jb us ss g) left with
 |none =>
  rw[hb]at AR;have e:mF (jb us ss g) left=none:=by
   cases hl:jb us ss g with
   |nil=>rw[hl]at hb;simp[js]at hb
   |cons l ls=>rw[mF,← hl,hb]
  rw[e];intro F hF;obtain⟨h1,_,h3,_⟩:=JF hF;have:=AR _ h1;omega
 |some q =>
  obtain⟨p,s,f⟩:=q;rw[hb]at AR;obtain⟨P,t,_,_,e⟩:=AR;rw[e];obtain⟨h1,h2⟩:=Zi hs.len t.BH;obtain⟨_,_,h3,h4,h5⟩:=JF h1;rw[←h2]at h3 h4 h5;refine⟨h1,by have:=t.sum;omega,fun E hE hs=>?_⟩
  obtain⟨e1,e2,e3,e4,e5⟩:=JF hE;have:=t.best _ e1 (by omega)
  rwa [e2,e4,e5,h4,h5]at this
theorem Zl:∀{p q:List Int},p.length=q.length→(gu p q<0∨gu q p<0∨p=q)
 |[],[],_=>.inr (.inr rfl)
 |[],_::_,h=>by simp at h
 |_::_,[],h=>by simp at h
 |a::p,b::q,h=>by
  have ih:=Zl (p:=p) (q:=q) (by simpa using h)
  simp only[gu];rcases Int.lt_trichotomy a b with h1|h1|h1
  ·left;simp[h1]
  ·subst h1
   simp only[Int.lt_irrefl,if_false];rcases ih with h2|h2|h2
   ·exact .inl h2
   ·exact .inr (.inl h2)
   ·exact .inr (.inr (by rw[h2]))
  ·right;left;simp[h1]
theorem al6{a b:Int×Int}{p q:List Int}(h:p.length=q.length):jU a b p q∨jU b a q p∨(a=b∧p=q):=by
 rw[xZ,xZ];unfold vy;obtain⟨a1,a2⟩:=a;obtain⟨b1,b2⟩:=b;rcases Zl h with h1|h1|h1
 ·simp only[Prod.mk.injEq];omega
 ·simp only[Prod.mk.injEq];omega
 ·simp only[Prod.mk.injEq,h1,and_true];omega
theorem BJ.unique{g:Int}{us:List Un}{ss:List Us}{left:Int}{F E:List Int}(h:BJ g us ss left F)(h':BJ g us ss left E):F=E:=by
 have l1:=BI h.mf;have l2:=BI h'.mf;rcases al6 (a:=(iG us F,iH ss F)) (b:=(iG us E,iH ss E)) (p:=F) (q:=E) (by omega) with h1|h1|h1
 ·exact absurd h1 (h'.best F h.mf h.sum)
 ·exact absurd h1 (h.best E h'.mf h'.sum)
 ·exact h1.2
theorem Zm{g:Int}:∀{us:List Un} {ss:List Us} {F:List Int} {a b c:Int},mf g us ss F→xW us ss F (a,b,c)=some (a+F.sum,b+iG us F,c+iH ss F)
 |[],[],[],a,b,c,_=>by simp[xW,iG,iH]
 |u::us,s::ss,q::F,a,b,c,h=>by
  rw[xW,if_pos (DH.1 h.1).2,Zm h.2];simp only[List.sum_cons,iG,iH,Option.some.injEq,Prod.mk.injEq];omega
 |[],_::_,_,_,_,_,h=>h.elim
 |[],[],_::_,_,_,_,h=>h.elim
 |_::_,[],_,_,_,_,h=>h.elim
 |_::_,_::_,[],_,_,_,h=>h.elim
theorem Zn{g:Int}{us:List Un}{ss:List Us}{F:List Int}(h:mf g us ss F):BE us ss F=some (F.sum,iG us F,iH ss F):=by
 have l:=BI h;rw[BE,if_pos (by omega),Zm h]
 simp
end Go.Proofs.YtocclbnghhaejaaGreat
namespace Go.Proofs.YtocclbnghhaejaaGreat
set_option linter.all false
open Go.Vm
theorem Zo:∀{p q:List Int},gu p q<0→¬gu q p<0
 |[],[],h=>by simp[gu]at h
 |[],_::_,_=>by simp[gu]
 |_::_,[],h=>by simp[gu]at h
 |a::p,b::q,h=>by
  have ih:=Zo (p:=p) (q:=q);simp only[gu]at h ⊢;rcases Int.lt_trichotomy a b with h1|h1|h1
  ·rw[if_neg (by omega),if_pos h1];omega
  ·subst h1
   simp only[Int.lt_irrefl,if_false]at h ⊢;exact ih h
  ·rw[if_neg (by omega),if_pos h1]at h;omega
theorem Zp:∀{p q r:List Int},gu p q<0→gu q r<0→gu p r<0
 |[],[],_,h,_=>by simp[gu]at h
 |_::_,[],_,h,_=>by simp[gu]at h
 |_,_::_,[],_,h=>by simp[gu]at h
 |[],_::_,_::_,_,_=>by simp[gu]
 |a::p,b::q,c::r,h,h'=>by
  have ih:=Zp (p:=p) (q:=q) (r:=r);simp only[gu]at h h' ⊢;rcases Int.lt_trichotomy a b with h1|h1|h1
  ·rcases Int.lt_trichotomy b c with h2|h2|h2
   ·rw[if_pos (by omega)];omega
   ·rw[if_pos (by omega)];omega
   ·rw[if_neg (by omega),if_pos h2]at h';omega
  ·subst h1
   simp only[Int.lt_irrefl,if_false]at h;rcases Int.lt_trichotomy a c with h2|h2|h2
   ·rw[if_pos h2];omega
   ·subst h2
    simp only[Int.lt_irrefl,if_false]at h' ⊢;exact ih h h'
   ·rw[if_neg (by omega),if_pos h2]at h';omega
  ·rw[if_neg (by omega),if_pos h1]at h;omega
theorem al7{a b:Int×Int}{p q:List Int}(h:jU a b p q):¬jU b a q p:=by
 rw[xZ]at h ⊢;unfold vy at h ⊢;have:=Zo (p:=p) (q:=q);rcases h with h | ⟨h1,h2,h3⟩
 ·omega
 ·have:=this h3;omega
theorem al8{a b c:Int×Int}{p q r:List Int}(h:jU a b p q)(h':jU b c q r):jU a c p r:=by
 rw[xZ]at h h' ⊢;unfold vy at h h' ⊢;have:=Zp (p:=p) (q:=q) (r:=r);rcases h with h | ⟨h1,h2,h3⟩
 ·omega
 ·rcases h' with h' | ⟨h4,h5,h6⟩
  ·omega
  ·have:=this h3 h6
   omega
theorem Zq{a:Int×Int}{p:List Int}:¬jU a a p p:=fun h=>al7 h h
end Go.Proofs.YtocclbnghhaejaaGreat
namespace Go.Proofs.YtocclbnghhaejaaGreat
set_option linter.all false
open Go.Vm
attribute [local simp] lQ lR kP lP
noncomputable def z8(us:List Un)(ss:List Us)(g:Int):Int :=
 if 6<us.length then 10 else if us.length≠ss.length then 3 else if ¬BF us ss then 3 else if g<1∨1073741824<g then 1 else 0
theorem al9(us:List Un)(ss:List Us)(g:Int)(G:List aP):aX F 200 [ke us,jT ss,i64 g] G=some (i64 (z8 us ss g),G) :=
 bM rfl rfl (by
  generalize hE:z8 us ss g=E;unfold z8 at hE;simp +contextual (disch:=omega) [-getElem?_pos,wrap64,XS];refine bE (fun h1=>?_) (fun h1=>fe (fun h2=>?_) (fun h2=>?_))
  ·rw[if_pos (by omega)]at hE
   exact hE
  ·simp[-List.length_eq_zero_iff,-Int.natCast_eq_zero]at h2
   rw[if_neg (by omega),if_pos (by omega)]at hE
   exact hE
  ·simp[-List.length_eq_zero_iff,-Int.natCast_eq_zero]at h2
   have hl:us.length=ss.length:=by omega
   rw[if_neg (by omega),if_neg (by omega)]at hE
   refine go_loop (fun i:Nat=>aku (jT ss) g (ke us) us.length i G) (fun i=>i≤us.length∧∀j,j<i→eU (nth us j) (nth ss j)) (fun i=>us.length-i) 0 rfl (by simp) ⟨by omega,by omega⟩ ?_
   rintro i ⟨hi,hv⟩;simp +contextual (disch:=omega) [-getElem?_pos,wrap64,XR];refine bE (fun h3=>?_) (fun h3=>?_)
   ·have h3:i<us.length:=by omega
    by_cases h4:eU (nth us i) (nth ss i)
    ·simp +contextual (disch:=omega) [-getElem?_pos,wrap64,aW (l:=us),aW (l:=ss),wB,h4]
     refine bF (i+1) (by simp) ⟨by omega,fun j hj=>?_⟩ (by omega)
     rcases Nat.lt_or_ge j i with h5|h5
     ·exact hv j h5
     ·rwa [show j=i by omega]
    ·rw[if_pos (fun h=>h4 (h i h3))]at hE
     simp +contextual (disch:=omega) [-getElem?_pos,wrap64,aW (l:=us),aW (l:=ss),wB,h4];exact hE
   ·obtain rfl:i=us.length:=by omega
    rw[if_neg (fun h=>h hv)]at hE;refine fe (fun h5=>?_) (fun h5=>?_)
    ·simp[-List.length_eq_zero_iff,-Int.natCast_eq_zero]at h5
     rw[if_pos (by omega)]at hE
     exact hE
    ·simp[-List.length_eq_zero_iff,-Int.natCast_eq_zero]at h5
     rw[if_neg (by omega)]at hE
     exact hE)
noncomputable def ta(u:Un)(s:Us)(g:Int):List Int:=([0,s.cd]++eY u g).filter fun q=>decide (jH u s q)
theorem Zr{u:Un}{s:Us}{g q:Int}:q∈ta u s g↔q∈p7 u s g:=by
 rw[DH];simp only[ta,List.mem_filter,decide_eq_true_eq,List.mem_append,List.mem_cons,List.not_mem_nil,or_false];constructor
 ·rintro⟨(h|h)|h,h2⟩
  ·exact⟨.inr (.inl h),h2⟩
  ·exact⟨.inr (.inr h),h2⟩
  ·exact⟨.inl h,h2⟩
 ·rintro⟨h|h|h,h2⟩
  ·exact⟨.inr h,h2⟩
  ·exact⟨.inl (.inl h),h2⟩
  ·exact⟨.inl (.inr h),h2⟩
theorem ama{u:Un}{s:Us}{g:Int}(h:gA u g=0):(ta u s g).length≤202:=by
 have h1:=O4 h;have:(ta u s g).length≤([0,s.cd]++eY u g).length:=List.length_filter_le _ _;simp at this;omega
theorem amb{u:Un}{s:Us}(hv:eU u s)(g:Int)(G:List aP):aX F 213 [un u,us s,i64 g] G =
  some (if gA u g=0 then .tuple [.slice (some 0) 1 ((ta u s g).map fun n=>[i64 n]),i64 0] else .tuple [.slice (some 0) 1 [],i64 (gA u g)],G) :=
 bM rfl rfl (by
  by_cases he:gA u g=0
  ·have hlen:=O4 he
   have hf:nx u g=eY u g:=by simp[nx,he]
   have hc:ta u s g=(0::s.cd::eY u g).filter fun q=>decide (jH u s q):=rfl;rw[if_pos he,hc];generalize hL:(0::s.cd::eY u g)=L;have hLl:L.length=(eY u g).length+2:=by rw[←hL];simp
   have hLm:[i64 0]::[i64 s.cd]::(eY u g).map (fun n=>[i64 n])=L.map fun n=>[i64 n]:=by rw[←hL];rfl
   simp (disch:=omega) [-getElem?_pos,wrap64,Ol,DB,he,hf,hLm];refine go_loop (fun i:Nat=>akD (.slice (some 1039) 1 (((L.take i).filter fun q=>decide (jH u s q)).map fun n=>[i64 n])) (.slice (some 1024) 1 (L.map fun n=>[i64 n])) L.length i u.row s.row L.length ((L.take i).filter fun q=>decide (jH u s q)).length G)
    (fun i=>i≤L.length) (fun i=>L.length-i) 0 rfl (by simp[hLl];omega) (by omega) ?_
   intro i hi;have SR:((L.take i).filter fun q=>decide (jH u s q)).length≤i:=Nat.le_trans (List.length_filter_le _ _) (by simp;omega)
   simp (disch:=omega) [-getElem?_pos,wrap64,X0];refine bE (fun h1=>?_) (fun h1=>?_)
   ·have h1:i<L.length:=by omega
    have hM:=OM u s (nth L i) [];by_cases h3:jH u s (nth L i)
    ·have h4:decide (eU u s∧jS u s (nth L i))=true:=decide_eq_true h3
     rw[h4]at hM;have h5:(L.take (i+1)).filter (fun q=>decide (jH u s q))=(L.take i).filter (fun q=>decide (jH u s q))++[nth L i]:=by
      rw[jI h1,List.filter_append];simp[h3]
     simp (disch:=omega) [-getElem?_pos,wrap64,dj h1,hM];exact bF (i+1) (by rw[h5];simp) (by omega) (by omega)
    ·have h4:decide (eU u s∧jS u s (nth L i))=false:=decide_eq_false h3
     rw[h4]at hM;have h5:(L.take (i+1)).filter (fun q=>decide (jH u s q))=(L.take i).filter (fun q=>decide (jH u s q)):=by
      rw[jI h1,List.filter_append];simp[h3]
     simp (disch:=omega) [-getElem?_pos,wrap64,dj h1,hM];exact bF (i+1) (by rw[h5];simp) (by omega) (by omega)
   ·obtain rfl:i=L.length:=by omega
    rw[List.take_length]
  ·rw[if_neg he]
   have hf:nx u g=[]:=by simp[nx,he]
   simp (disch:=omega) [-getElem?_pos,wrap64,Ol,DB,he,hf])
noncomputable abbrev JG(g:Int)(u:Un)(s:Us):List V:=[.slice none 1 ((ta u s g).map fun n=>[i64 n])]
noncomputable def Aa(us:List Un)(g:Int):Int:=if BG us g then 0 else 10
theorem ame{us:List Un}{ss:List Us}(hl:us.length=ss.length)(hn:us.length≤1000)(hv:BF us ss)(g:Int)(G:List aP):aX F 201 [ke us,jT ss,i64 g] G =
  some (.tuple [.slice (some 0) 1 (if Aa us g=0 then List.zipWith (JG g) us ss else []),i64 (Aa us g)],G) :=
 bM rfl rfl (by
  generalize hE:Aa us g=E;generalize hW:V.tuple [.slice (some 0) 1 (if E=0 then List.zipWith (JG g) us ss else []),i64 E]=W
  unfold Aa at hE;simp (disch:=omega) [-getElem?_pos,wrap64,XU];refine go_loop (fun i:Nat=>akw (jT ss) g (.slice (some 1035) 1 (List.zipWith (JG g) (us.take i) (ss.take i))) (ke us) us.length i i G)
   (fun i=>i≤us.length∧∀j,j<i→gA (nth us j) g=0) (fun i=>us.length-i) 0 rfl (by simp) ⟨by omega,by omega⟩ ?_
  rintro i ⟨hi,hf⟩;simp (disch:=omega) [-getElem?_pos,wrap64,XT];refine bE (fun h3=>?_) (fun h3=>?_)
  ·have h3:i<us.length:=by omega
   have fO:i<ss.length:=by omega
   have hC:=amb (hv i h3) g [];by_cases h4:gA (nth us i) g=0
   ·rw[if_pos h4]at hC
    simp (disch:=omega) [-getElem?_pos,wrap64,aW (l:=us),aW (l:=ss),hC];refine bF (i+1) ?_ ⟨by omega,fun j hj=>?_⟩ (by omega)
    ·rw[xX h3 fO];simp
    rcases Nat.lt_or_ge j i with h5|h5
    ·exact hf j h5
    ·rwa [show j=i by omega]
   ·rw[if_neg h4]at hC
    rw[if_neg (fun h=>h4 (h i h3))]at hE;subst hE;simp (disch:=omega) [-getElem?_pos,wrap64,aW (l:=us),aW (l:=ss),hC,h4];exact hW
  ·obtain rfl:i=us.length:=by omega
   rw[if_pos (show BG us g from hf)]at hE;subst hE;rw[List.take_length,List.take_of_length_le (by omega)]
   simp[←hW])
end Go.Proofs.YtocclbnghhaejaaGreat
namespace Go.Proofs.YtocclbnghhaejaaGreat
set_option linter.all false
open Go.Vm
def Vd:List Nat→List Nat→Prop
 |[],[]=>True
 |n::ns,d::a=>d<n∧Vd ns a
 |_,_=>False
def qa:List Nat→Nat
 |[]=>1
 |n::ns=>n*qa ns
def rk:List Nat→List Nat→Nat
 |_::ns,d::a=>d*qa ns+rk ns a
 |_,_=>0
def inc:List Nat→List Nat→Option (List Nat)
 |n::ns,d::a=>match inc ns a with
  |some b=>some (d::b)
  |none=>if d+1<n then some ((d+1)::List.replicate a.length 0) else none
 |_,_=>none
theorem DI:∀{ns a:List Nat},Vd ns a→a.length=ns.length
 |[],[],_=>rfl
 |_::_,_::_,h=>by simp[DI h.2]
 |[],_::_,h=>h.elim
 |_::_,[],h=>h.elim
theorem yd:∀{ns a:List Nat},Vd ns a→∀i,i<ns.length→nth a i<nth ns i
 |n::ns,d::a,h,i,hi=>by
  cases i with
  |zero=>exact h.1
  |succ i=>exact yd h.2 i (by simpa using hi)
theorem DJ:∀{ns a:List Nat},Vd ns a→rk ns a<qa ns
 |[],[],_=>by simp[rk,qa]
 |n::ns,d::a,h=>by
  have ih:=DJ h.2;have h1:=Nat.mul_le_mul_right (qa ns) (show d+1≤n from h.1);simp only[rk,qa];rw[Nat.succ_mul]at h1;omega
 |[],_::_,h=>h.elim
 |_::_,[],h=>h.elim
theorem Zs:∀{ns a b:List Nat},Vd ns a→Vd ns b→rk ns a=rk ns b→a=b
 |[],[],[],_,_,_=>rfl
 |n::ns,d::a,e::b,ha,hb,h=>by
  have h1:=DJ ha.2;have h2:=DJ hb.2;simp only[rk]at h;have hde:d=e:=by
   rcases Nat.lt_trichotomy d e with h3|h3|h3
   ·have:=Nat.mul_le_mul_right (qa ns) (show d+1≤e from h3)
    rw[Nat.succ_mul]at this;omega
   ·exact h3
   ·have:=Nat.mul_le_mul_right (qa ns) (show e+1≤d from h3)
    rw[Nat.succ_mul]at this;omega
  subst hde;rw[Zs ha.2 hb.2 (by omega)]
 |[],_::_,_,h,_,_=>h.elim
 |[],[],_::_,_,h,_=>h.elim
 |_::_,[],_,h,_,_=>h.elim
 |_::_,_::_,[],_,h,_=>h.elim
theorem O8:∀{ns:List Nat} {k:Nat},rk ns (List.replicate k 0)=0
 |[],k=>by cases k<;>rfl
 |_::ns,0=>rfl
 |_::ns,k+1=>by simp[List.replicate_succ,rk,O8]
theorem O9:∀{ns:List Nat},(∀n∈ns,0<n)→Vd ns (List.replicate ns.length 0)
 |[],_=>trivial
 |n::ns,h=>⟨h n (by simp),O9 fun m hm=>h m (by simp[hm])⟩
theorem Zt:∀{ns a:List Nat},Vd ns a→match inc ns a with
  |none=>rk ns a+1=qa ns
  |some b=>Vd ns b∧rk ns b=rk ns a+1
 |[],[],_=>by simp[inc,rk,qa]
 |n::ns,d::a,h=>by
  have ih:=Zt h.2;have hl:=DI h.2;unfold inc;cases hi:inc ns a with
  |some b =>
   rw[hi]at ih;simp only at ih ⊢;exact⟨⟨h.1,ih.1⟩,by simp only[rk];omega⟩
  |none =>
   rw[hi]at ih;simp only at ih ⊢;have hp:∀m∈ns,0<m:=fun m hm=>by
    obtain⟨i,hi,rfl⟩:=DF hm;have:=yd h.2 i hi;omega
   by_cases hd:d+1<n
   ·simp only[hd,if_true]
    refine⟨⟨hd,by rw[hl];exact O9 hp⟩,?_⟩
    simp only[rk,O8];rw[Nat.succ_mul];omega
   ·simp only[hd,if_false]
    have:n=d+1:=by have:=h.1;omega
    subst this;simp only[rk,qa];rw[Nat.succ_mul];omega
 |[],_::_,h=>h.elim
 |_::_,[],h=>h.elim
theorem Pb:∀{ns a:List Nat},Vd ns a→(∀j,j<ns.length→nth a j+1=nth ns j)→inc ns a=none
 |[],[],_,_=>rfl
 |n::ns,d::a,h,hm=>by
  have ih:=Pb h.2 fun j hj=>hm (j+1) (by simpa using hj)
  have h0:=hm 0 (by simp)
  simp only[inc,ih];have:¬d+1<n:=by simp[nth]at h0;omega
  simp[this]
 |[],_::_,h,_=>h.elim
 |_::_,[],h,_=>h.elim
theorem Zu:∀{ns a:List Nat} {i:Nat},Vd ns a→i<ns.length→(∀j,i<j→j<ns.length→nth a j+1=nth ns j)→nth a i+1<nth ns i →
  inc ns a=some (a.take i++(nth a i+1)::List.replicate (ns.length-1-i) 0)
 |n::ns,d::a,0,h,_,hm,bA=>by
  have ih:=Pb h.2 fun j hj=>hm (j+1) (by omega) (by simpa using hj)
  have hl:=DI h.2;have:d+1<n:=by simpa [nth] using bA
  simp only[inc,ih,this,if_true];simp[nth,hl]
 |n::ns,d::a,i+1,h,hi,hm,bA=>by
  have qA:i<ns.length:=by simpa using hi
  have ih:=Zu h.2 qA (fun j h1 h2=>hm (j+1) (by omega) (by simpa using h2)) bA
  simp only[inc,ih];simp[nth];omega
 |[],[],_,_,hi,_,_=>by simp at hi
 |[],_::_,_,h,_,_,_=>h.elim
 |_::_,[],_,h,_,_,_=>h.elim
def ea(R:List (List Int))(a:List Nat):List Int:=List.zipWith (fun o k=>nth o k) R a
def Gl:List (List Int)→List Int→Prop
 |[],[]=>True
 |o::R,q::F=>q∈o∧Gl R F
 |_,_=>False
theorem Pc:∀{R:List (List Int)} {a:List Nat},Vd (R.map List.length) a→Gl R (ea R a)
 |[],[],_=>trivial
 |o::R,d::a,h=>⟨oK h.1,Pc h.2⟩
 |[],_::_,h=>h.elim
 |_::_,[],h=>h.elim
theorem Pd:∀{R:List (List Int)} {F:List Int},Gl R F→∃a,Vd (R.map List.length) a∧ea R a=F
 |[],[],_=>⟨[],trivial,rfl⟩
 |o::R,q::F,h=>by
  obtain⟨a,h1,h2⟩:=Pd h.2;obtain⟨d,h3,h4⟩:=DF h.1;exact⟨d::a,⟨h3,h1⟩,by simp only[ea,List.zipWith_cons_cons]at h2 ⊢;rw[h2,h4]⟩
 |[],_::_,h=>h.elim
 |_::_,[],h=>h.elim
noncomputable def mW(us:List Un)(ss:List Us)(g:Int):List (List Int):=List.zipWith (fun u s=>ta u s g) us ss
theorem Gm{g:Int}:∀{us:List Un} {ss:List Us} {F:List Int},us.length=ss.length→(Gl (mW us ss g) F↔mf g us ss F)
 |[],[],[],_=>Iff.rfl
 |[],[],_::_,_=>Iff.rfl
 |[],_::_,_,h=>by simp at h
 |_::_,[],_,h=>by simp at h
 |_::_,_::_,[],_=>Iff.rfl
 |u::us,s::ss,q::F,h=>by
  have ih:=Gm (g:=g) (us:=us) (ss:=ss) (F:=F) (by simpa using h)
  show(q∈ta u s g∧Gl (mW us ss g) F)↔(q∈p7 u s g∧mf g us ss F);rw[Zr,ih]
theorem amg{u:Un}{s:Us}{g:Int}(hv:eU u s):0<(ta u s g).length:=by
 have:s.cd∈ta u s g:=by
  rw[Zr,DH];refine⟨.inr (.inr rfl),hv,?_⟩;obtain⟨hc,h1,h2⟩:=hv;unfold jS;split
  ·rename_i h;rw[h];intro h3;omega
  ·rename_i h
   rcases h2 with h2 | ⟨h2,h3⟩
   ·exact absurd h2 h
   ·exact⟨h2,fun h4=>h h4.1,h3⟩
 exact List.length_pos_of_mem this
def Kn(us:List Un)(ss:List Us)(R:List (List Int))(release:Int)(r:Nat):Option (List Int)→Prop
 |none=>∀b,Vd (R.map List.length) b→rk (R.map List.length) b<r→release<(ea R b).sum
 |some F=>(∃b,Vd (R.map List.length) b∧ea R b=F∧F.sum≤release) ∧
   ∀b,Vd (R.map List.length) b→rk (R.map List.length) b<r→(ea R b).sum≤release→¬jU (iG us (ea R b),iH ss (ea R b)) (iG us F,iH ss F) (ea R b) F
noncomputable def ui(us:List Un)(ss:List Us)(release:Int)(P:List Int):Option (List Int)→Option (List Int)
 |none=>if P.sum≤release then some P else none
 |some F=>if P.sum≤release then (if jU (iG us P,iH ss P) (iG us F,iH ss F) P F then some P else some F) else some F
theorem amh{us:List Un}{ss:List Us}{R:List (List Int)}{release:Int}{a:List Nat}(ha:Vd (R.map List.length) a){best:Option (List Int)}(h:Kn us ss R release (rk (R.map List.length) a) best) :
  Kn us ss R release (rk (R.map List.length) a+1) (ui us ss release (ea R a) best):=by
 have split:∀b,Vd (R.map List.length) b→rk (R.map List.length) b<rk (R.map List.length) a+1→rk (R.map List.length) b<rk (R.map List.length) a∨b=a:=fun b hb bA=>by
  rcases Nat.lt_or_ge (rk (R.map List.length) b) (rk (R.map List.length) a) with h1|h1
  ·exact .inl h1
  ·exact .inr (Zs hb ha (by omega))
 cases best with
 |none =>
  unfold ui;by_cases hs:(ea R a).sum≤release
  ·simp only[hs,if_true]
   refine⟨⟨a,ha,rfl,hs⟩,fun b hb bA vB=>?_⟩;rcases split b hb bA with h1|rfl
   ·have:=h b hb h1;omega
   ·exact Zq
  ·simp only[hs,if_false]
   intro b hb bA;rcases split b hb bA with h1|rfl
   ·exact h b hb h1
   ·omega
 |some F =>
  obtain⟨h1,h2⟩:=h;unfold ui;by_cases hs:(ea R a).sum≤release
  ·simp only[hs,if_true]
   by_cases hb:jU (iG us (ea R a),iH ss (ea R a)) (iG us F,iH ss F) (ea R a) F
   ·simp only[hb,if_true]
    refine⟨⟨a,ha,rfl,hs⟩,fun b nf bA vB=>?_⟩;rcases split b nf bA with h3|rfl
    ·exact fun h4=>h2 b nf h3 vB (al8 h4 hb)
    ·exact Zq
   ·simp only[hb,if_false]
    refine⟨h1,fun b nf bA vB=>?_⟩;rcases split b nf bA with h3|rfl
    ·exact h2 b nf h3 vB
    ·exact hb
  ·simp only[hs,if_false]
   refine⟨h1,fun b nf bA vB=>?_⟩;rcases split b nf bA with h3|rfl
   ·exact h2 b nf h3 vB
   ·omega
theorem Zv{us:List Un}{ss:List Us}{g release:Int}(hl:us.length=ss.length){best:Option (List Int)}(h:Kn us ss (mW us ss g) release (qa ((mW us ss g).map List.length)) best) :
  match best with
  |none=>∀F,mf g us ss F→release<F.sum
  |some F=>BJ g us ss release F:=by
 cases best with
 |none =>
  intro F hF;obtain⟨b,hb,rfl⟩:=Pd ((Gm hl).2 hF);exact h b hb (DJ hb)
 |some F =>
  obtain⟨⟨b,hb,e,hs⟩,h2⟩:=h;refine⟨?_,hs,fun E hE hEs=>?_⟩
  ·rw[←e];exact(Gm hl).1 (Pc hb)
  ·obtain⟨c,hc,rfl⟩:=Pd ((Gm hl).2 hE)
   exact h2 c hc (DJ hc) hEs
end Go.Proofs.YtocclbnghhaejaaGreat
