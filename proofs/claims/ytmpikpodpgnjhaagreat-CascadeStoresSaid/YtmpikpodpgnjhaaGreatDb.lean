/- Parts of the proof, joined: Dsp1, Dsp2, Dsp3, Dsp4, Dsp5, Dsp6, Dsp7, Dsp8, Ord1, Ref1, Ref2. -/
import Derived.Test.YtmpikpodpgnjhaaGreatDa
namespace Go.Proofs.YtmpikpodpgnjhaaGreat
set_option linter.all false
open Go.Vm
attribute [local simp] mc me ma mb
theorem sY{α:Type}[Inhabited α]{l:List α}{i:Nat}(h:i<l.length):l.drop i=nth l i::l.drop (i+1):=by
 rw[List.drop_eq_getElem_cons h];simp[nth,List.getD,h]
def fK:List Int→List Int→Int
 |[],[]=>0
 |[],_::_ => -1
 |_::_,[]=>1
 |a::p,b::q=>if a<b then -1 else if b<a then 1 else fK p q
theorem L2(a:Int)(G:List aP):a8 F 235 [i64 a] G=some (.bool false,G) :=
 bV rfl rfl (by simp[wrap64,UI])
theorem L3(a b:Int)(G:List aP):a8 F 232 [i64 a,i64 b] G=some (i64 (if a<b then -1 else if b<a then 1 else 0),G) :=
 bV rfl rfl (by
  by_cases h1:a<b
  ·simp[wrap64,GI,L2,h1]
  ·by_cases h2:b<a
   ·simp[wrap64,GI,L2,h1,h2]
   ·simp[wrap64,GI,L2,h1,h2])
theorem agr(p q:List Int)(hp:p.length≤4294967296)(G:List aP):a8 F 226 [ints p,ints q] G=some (i64 (fK p q),G) :=
 bV rfl rfl (by
  generalize hW:fK p q=W;simp (disch:=omega) [-getElem?_pos,wrap64,UG];refine go_loop (fun i:Nat=>afU (ints p) (ints q) (ints p) p.length i G) (fun i=>i≤p.length∧i≤q.length∧fK (p.drop i) (q.drop i)=W) (fun i=>p.length-i) 0 rfl (by simp) ⟨by omega,by omega,by simpa using hW⟩ ?_
  rintro i ⟨h1,h2,h3⟩;simp (disch:=omega) [-getElem?_pos,wrap64,UF];refine bK (fun h4=>?_) (fun h4=>?_)
  ·have h4:i<p.length:=by omega
   rw[sY h4]at h3;by_cases h5:i<q.length
   ·rw[sY h5,fK]at h3
    have h6:¬q.length≤i:=by omega
    by_cases h7:nth p i<nth q i
    ·rw[if_pos h7]at h3
     simp (disch:=omega) [-getElem?_pos,wrap64,dD,L3,h6,h7];exact h3
    ·rw[if_neg h7]at h3
     by_cases h8:nth q i<nth p i
     ·rw[if_pos h8]at h3
      simp (disch:=omega) [-getElem?_pos,wrap64,dD,L3,h6,h7,h8];exact h3
     ·rw[if_neg h8]at h3
      simp (disch:=omega) [-getElem?_pos,wrap64,dD,L3,h6,h7,h8];exact bL (i+1) (by simp) ⟨by omega,by omega,h3⟩ (by omega)
   ·obtain rfl:i=q.length:=by omega
    rw[List.drop_length,fK]at h3;simp (disch:=omega) [-getElem?_pos,wrap64,dD];exact h3
  ·obtain rfl:i=p.length:=by omega
   rw[List.drop_length]at h3;refine bK (fun h5=>?_) (fun h5=>?_)
   ·have h6:p.length<q.length:=by omega
    rw[sY h6,fK]at h3;exact h3
   ·obtain h6:q.drop p.length=[]:=List.drop_eq_nil_iff.2 (by omega)
    rw[h6,fK]at h3;exact h3)
abbrev GV(a:Int×Int):V:=.agg [i64 a.1,i64 a.2]
def jh(a b:Int×Int)(p q:List Int):Prop:=if a.1≠b.1 then b.1<a.1 else if a.2≠b.2 then a.2<b.2 else fK p q<0
instance {a b:Int×Int} {p q:List Int}:Decidable (jh a b p q):=by unfold jh;infer_instance
theorem ags(a b:Int×Int)(p q:List Int)(hp:p.length≤4294967296)(G:List aP):a8 F 219 [GV a,GV b,ints p,ints q] G=some (.bool (decide (jh a b p q)),G) :=
 bV rfl rfl (by
  generalize hW:decide (jh a b p q)=W;simp only[jh]at hW;obtain⟨a1,a2⟩:=a;obtain⟨b1,b2⟩:=b;simp only at hW;by_cases h1:a1=b1
  ·by_cases h2:a2=b2
   ·simp[wrap64,GG,agr p q hp,h1,h2]
    simpa [h1,h2] using hW
   ·simp[wrap64,GG,h1,h2]
    simpa [h1,h2] using hW
  ·simp[wrap64,GG,h1]
   simpa [h1] using hW)
theorem agt(p q:List Int)(hp:p.length≤4294967296)(G:List aP):a8 F 188 [ints p,ints q] G=some (.bool (decide (fK p q<0)),G) :=
 bV rfl rfl (by
  generalize hW:fK p q=W;simp (disch:=omega) [-getElem?_pos,wrap64,TU];refine go_loop (fun i:Nat=>ae5 (ints p) (ints q) p.length i G) (fun i=>i≤p.length∧i≤q.length∧fK (p.drop i) (q.drop i)=W) (fun i=>p.length-i) 0 rfl (by simp) ⟨by omega,by omega,by simpa using hW⟩ ?_
  rintro i ⟨h1,h2,h3⟩;simp (disch:=omega) [-getElem?_pos,wrap64,TT];refine bK (fun h4=>?_) (fun h4=>?_)
  ·have h4:i<p.length:=by omega
   rw[sY h4]at h3;by_cases h5:i<q.length
   ·rw[sY h5,fK]at h3
    have h6:¬q.length≤i:=by omega
    by_cases h7:nth p i<nth q i
    ·rw[if_pos h7]at h3
     have h9:¬nth p i=nth q i:=by omega
     subst h3;simp (disch:=omega) [-getElem?_pos,wrap64,dD,h6,h7,h9,h5]
    ·rw[if_neg h7]at h3
     by_cases h8:nth q i<nth p i
     ·rw[if_pos h8]at h3
      have h9:¬nth p i=nth q i:=by omega
      subst h3;simp (disch:=omega) [-getElem?_pos,wrap64,dD,h6,h7,h9,h5]
     ·rw[if_neg h8]at h3
      have h9:nth p i=nth q i:=by omega
      simp (disch:=omega) [-getElem?_pos,wrap64,dD,h6,h9,h5];exact bL (i+1) (by simp) ⟨by omega,by omega,h3⟩ (by omega)
   ·obtain rfl:i=q.length:=by omega
    rw[List.drop_length,fK]at h3;subst h3;simp (disch:=omega) [-getElem?_pos,wrap64,dD]
  ·obtain rfl:i=p.length:=by omega
   rw[List.drop_length]at h3;by_cases h6:p.length<q.length
   ·rw[sY h6,fK]at h3
    subst h3;simp[h6]
   ·have h7:q.drop p.length=[]:=List.drop_eq_nil_iff.2 (by omega)
    rw[h7,fK]at h3;subst h3;simp;omega)
theorem Vb(a b:Int×Int)(p q:List Int)(hp:p.length≤4294967296)(G:List aP):a8 F 168 [GV a,GV b,ints p,ints q] G=some (.bool (decide (jh a b p q)),G) :=
 bV rfl rfl (by
  generalize hW:decide (jh a b p q)=W;simp only[jh]at hW;obtain⟨a1,a2⟩:=a;obtain⟨b1,b2⟩:=b;simp only at hW;by_cases h1:a1=b1
  ·by_cases h2:a2=b2
   ·simp[wrap64,Gy,agt p q hp,h1,h2]
    simpa [h1,h2] using hW
   ·simp[wrap64,Gy,h1,h2]
    simpa [h1,h2] using hW
  ·simp[wrap64,Gy,h1]
   simpa [h1] using hW)
def iY(u:Un)(s:Us)(q:Int):Prop:=eJ u s∧jf u s q
noncomputable instance {u:Un} {s:Us} {q:Int}:Decidable (iY u s q):=by unfold iY;infer_instance
def gS(s:Us)(q:Int):Int:=if 0<q∧s.bZ=0 then 1 else 0
noncomputable def wy:List Un→List Us→List Int→Int×Int×Int→Option (Int×Int×Int)
 |u::us,s::ss,f::fs,a=>if iY u s f then wy us ss fs (a.1+f,a.2.1+pow u f,a.2.2+gS s f) else none
 |_,_,_,a=>some a
noncomputable def zt(us:List Un)(ss:List Us)(fs:List Int):Option (Int×Int×Int):=if us.length=ss.length∧us.length=fs.length then wy us ss fs (0,0,0) else none
def Bi:Option (Int×Int×Int)→V
 |some (a,b,c)=>.tuple [i64 a,i64 b,i64 c,.bool true]
 |none=>.tuple [i64 0,i64 0,i64 0,.bool false]
theorem GW{u:Un}{s:Us}{q:Int}(h:iY u s q):0≤q∧q≤1073741824:=by
 obtain⟨⟨hc,_⟩,h2⟩:=h;have hu:=oz hc;have:=hu.least;have:=hu.LM;unfold jf at h2;split at h2
 ·omega
 ·have a:=h2.2.2.1
  have b:=h2.2.2.2.1;omega
theorem GX{u:Un}{q:Int}:0≤pow u q∧pow u q≤1073741824:=by
 unfold pow;split
 ·rename_i h
  have hu:=oz h.1;have hp:=hu.cv.pos;have a:=Bf hu.cv q;have b:=hu.top;have c:=(hu.cv.y0 0 (by omega)).1
  omega
 ·omega
theorem L4{s:Us}{q:Int}:0≤gS s q∧gS s q≤1:=by unfold gS;split<;>omega
theorem Ve(us:List Un)(ss:List Us)(fs:List Int)(hn:us.length≤1000)(G:List aP):a8 F 121 [jy us,jg ss,ints fs] G=some (Bi (zt us ss fs),G) :=
 bV rfl rfl (by
  generalize hW:Bi (zt us ss fs)=W;unfold zt at hW;by_cases h1:us.length=ss.length
  ·by_cases h2:us.length=fs.length
   ·rw[if_pos ⟨h1,h2⟩]at hW
    simp +contextual (disch:=omega) [-getElem?_pos,wrap64,Gn,← h1,← h2];refine go_loop (fun x:Nat×Int×Int×Int=>adJ (jg ss) (ints fs) x.2.1 x.2.2.1 x.2.2.2 (jy us) us.length x.1 G)
     (fun x=>x.1≤us.length∧Bi (wy (us.drop x.1) (ss.drop x.1) (fs.drop x.1) (x.2.1,x.2.2.1,x.2.2.2))=W∧(0≤x.2.1∧x.2.1≤1073741824*(x.1:Int))∧(0≤x.2.2.1∧x.2.2.1≤1073741824*(x.1:Int))∧0≤x.2.2.2∧x.2.2.2≤x.1) (fun x=>us.length-x.1) (0,0,0,0) rfl (by simp) (by simpa using hW) ?_
    rintro⟨i,a,b,c⟩ ⟨hi,hq,ha,hb,hc⟩;simp only at hi hq ha hb hc;simp +contextual (disch:=omega) [-getElem?_pos,wrap64,SI];refine bK (fun h4=>?_) (fun h4=>?_)
    ·have h4:i<us.length:=by omega
     have h5:i<ss.length:=by omega
     have h6:i<fs.length:=by omega
     rw[sY h4,sY h5,sY h6,wy]at hq;by_cases h7:iY (nth us i) (nth ss i) (nth fs i)
     ·rw[if_pos h7]at hq
      have r1:=GW h7;have r2:=GX (u:=nth us i) (q:=nth fs i);have r3:=L4 (s:=nth ss i) (q:=nth fs i);have h8:decide (eJ (nth us i) (nth ss i)∧jf (nth us i) (nth ss i) (nth fs i))=true:=decide_eq_true h7;simp only at hq;have L5:i+1≤us.length∧Bi (wy (us.drop (i+1)) (ss.drop (i+1)) (fs.drop (i+1)) (a+nth fs i,b+pow (nth us i) (nth fs i),c+gS (nth ss i) (nth fs i)))=W ∧
        (0≤a+nth fs i∧a+nth fs i≤1073741824*((i+1:Nat):Int))∧(0≤b+pow (nth us i) (nth fs i)∧b+pow (nth us i) (nth fs i)≤1073741824*((i+1:Nat):Int))∧0≤c+gS (nth ss i) (nth fs i)∧c+gS (nth ss i) (nth fs i)≤(i+1:Nat) :=
       ⟨by omega,hq,by omega,by omega,by omega⟩
      have hN:=LR (nth us i) (nth ss i) (nth fs i) [];have e:qy (nth us i) (nth ss i) (nth fs i)=0:=by
       obtain⟨⟨q1,q2⟩,q3⟩:=h7;simp[qy,q1,q3,show eJ (nth us i) (nth ss i) from⟨q1,q2⟩]
      simp only[e,if_true]at hN;by_cases h9:0<nth fs i
      ·by_cases fx:(nth ss i).bZ=0
       ·have jW:gS (nth ss i) (nth fs i)=1:=by simp[gS,h9,fx]
        simp +contextual (disch:=omega) [-getElem?_pos,wrap64,bb (l:=us),bb (l:=ss),dD,hN,LQ,h9];simp +contextual (disch:=omega) [-getElem?_pos,wrap64,fx];exact bL (i+1,a+nth fs i,b+pow (nth us i) (nth fs i),c+gS (nth ss i) (nth fs i)) (by simp[jW]) L5 (by simp;omega)
       ·have jW:gS (nth ss i) (nth fs i)=0:=by simp[gS,fx]
        simp +contextual (disch:=omega) [-getElem?_pos,wrap64,bb (l:=us),bb (l:=ss),dD,hN,LQ,h9];simp +contextual (disch:=omega) [-getElem?_pos,wrap64,fx];exact bL (i+1,a+nth fs i,b+pow (nth us i) (nth fs i),c+gS (nth ss i) (nth fs i)) (by simp[jW]) L5 (by simp;omega)
      ·have jW:gS (nth ss i) (nth fs i)=0:=by simp[gS,h9]
       simp +contextual (disch:=omega) [-getElem?_pos,wrap64,bb (l:=us),bb (l:=ss),dD,hN,LQ,h9];exact bL (i+1,a+nth fs i,b+pow (nth us i) (nth fs i),c+gS (nth ss i) (nth fs i)) (by simp[jW]) L5 (by simp;omega)
     ·rw[if_neg h7]at hq
      have hN:=LR (nth us i) (nth ss i) (nth fs i) [];have e:¬qy (nth us i) (nth ss i) (nth fs i)=0:=fun e=>by
       unfold qy at e;split at e
       ·contradiction
       ·split at e
        ·cases e
        ·split at e
         ·cases e
         ·rename_i a1 a2 a3
          exact h7 ⟨Decidable.of_not_not a2,Decidable.of_not_not a3⟩
      simp only[e,if_false]at hN;simp +contextual (disch:=omega) [-getElem?_pos,wrap64,bb (l:=us),bb (l:=ss),dD,hN,e];exact hq
    ·obtain rfl:i=us.length:=by omega
     rw[List.drop_length,wy]at hq
     ·exact hq
     ·intro u lX s ss' f fs' e;cases e
   ·rw[if_neg (fun h=>h2 h.2)]at hW
    have h3:¬ss.length=fs.length:=by omega
    simp +contextual (disch:=omega) [-getElem?_pos,wrap64,Gn,h1];refine gm (fun h=>?_) (fun h=>?_)
    ·exact hW
    ·simp[-List.length_eq_zero_iff,-Int.natCast_eq_zero]at h
     omega
  ·rw[if_neg (fun h=>h1 h.1)]at hW
   simp +contextual (disch:=omega) [-getElem?_pos,wrap64,Gn];refine gm (fun h=>?_) (fun h=>?_)
   ·exact hW
   ·simp[-List.length_eq_zero_iff,-Int.natCast_eq_zero]at h
    omega)
noncomputable def oU(u:Un)(s:Us)(g:Int):List Int:=(dedup (mA (eO u g++[0,s.bZ]))).filter fun q=>decide (iY u s q)
noncomputable abbrev GY(u:Un)(s:Us)(q:Int):List V:=[i64 q,i64 (pow u q),i64 (gS s q)]
theorem ji{α:Type}[Inhabited α]{l:List α}{i:Nat}(h:i<l.length):l.take (i+1)=l.take i++[nth l i]:=by
 rw[List.take_add_one,bb h];rfl
theorem nP{α:Type}[Inhabited α]{l m:List α}{i:Nat}(h:i<l.length):nth (l++m) i=nth l i:=by
 simp[nth,List.getElem?_append,h]
theorem Vg{u:Un}{s:Us}{L Z:List Int}{G:List aP}{K:cf}(hL:L.length≤4294967296)
  (hK:∀z,K (.exit 0) ⟨[(3,.bA 3 0),(4,.bA 4 0),(10,.slice (some 1061) 3 ((L.filter fun q=>decide (iY u s q)).map (GY u s))),(30,.bO 20026 1 L.length),(31,i64 L.length),(32,i64 L.length),(33,z)],[(3,u.row),(4,s.row),(20026,dv (L++Z))],[(1061,(L.filter fun q=>decide (iY u s q)).length)],G⟩) :
  go (a8 F) UE ⟨[(3,.bA 3 0),(4,.bA 4 0),(10,.bW),(30,.bO 20026 1 L.length),(31,i64 L.length),(32,i64 0)],[(3,u.row),(4,s.row),(20026,dv (L++Z))],[],G⟩ K:=by
 refine go_loop (fun i:Nat=>afQ (.slice (some 1061) 3 (((L.take i).filter fun q=>decide (iY u s q)).map (GY u s))) L.length L.length i u.row s.row (dv (L++Z)) ((L.take i).filter fun q=>decide (iY u s q)).length G) (fun i=>i≤L.length) (fun i=>L.length-i) 0 rfl (by simp) (by omega) ?_
 intro i hi;have hlen:((L.take i).filter fun q=>decide (iY u s q)).length≤i:=Nat.le_trans (List.length_filter_le _ _) (by simp;omega)
 simp (disch:=omega) [wrap64,UD];refine bK (fun h1=>?_) (fun h1=>?_)
 ·have h1:i<L.length:=by omega
  have h2:i<(L++Z).length:=by simp;omega
  have hM:=agf u s (nth L i) [];by_cases h3:iY u s (nth L i)
  ·have h4:decide (eJ u s∧jf u s (nth L i))=true:=decide_eq_true h3
   rw[h4]at hM;have h5:(L.take (i+1)).filter (fun q=>decide (iY u s q))=(L.take i).filter (fun q=>decide (iY u s q))++[nth L i]:=by
    rw[ji h1,List.filter_append];simp[h3]
   by_cases h6:0<nth L i
   ·by_cases h7:s.bZ=0
    ·have h8:gS s (nth L i)=1:=by simp[gS,h6,h7]
     simp (disch:=omega) [wrap64,jI h2,nP h1,hM,DI,h6];simp (disch:=omega) [wrap64,h7];exact bL (i+1) (by rw[h5];simp[h8]) (by omega) (by omega)
    ·have h8:gS s (nth L i)=0:=by simp[gS,h7]
     simp (disch:=omega) [wrap64,jI h2,nP h1,hM,DI,h6];simp (disch:=omega) [wrap64,h7];exact bL (i+1) (by rw[h5];simp[h8]) (by omega) (by omega)
   ·have h8:gS s (nth L i)=0:=by simp[gS,h6]
    simp (disch:=omega) [wrap64,jI h2,nP h1,hM,DI,h6];exact bL (i+1) (by rw[h5];simp[h8]) (by omega) (by omega)
  ·have h4:decide (eJ u s∧jf u s (nth L i))=false:=decide_eq_false h3
   rw[h4]at hM;have h5:(L.take (i+1)).filter (fun q=>decide (iY u s q))=(L.take i).filter (fun q=>decide (iY u s q)):=by
    rw[ji h1,List.filter_append];simp[h3]
   simp (disch:=omega) [wrap64,jI h2,nP h1,hM];exact bL (i+1) (by rw[h5];simp) (by omega) (by omega)
 ·obtain rfl:i=L.length:=by omega
  rw[List.take_length];exact hK _
theorem agu{u:Un}{s:Us}(hv:eJ u s){g:Int}(hg:1≤g∧g≤1073741824)(G:List aP):a8 F 225 [un u,us s,i64 g] G =
  some (if fR u g=0 then .tuple [.slice (some 0) 3 ((oU u s g).map (GY u s)),.bool true] else .tuple [.slice (some 0) 3 [],.bool false],G) :=
 bV rfl rfl (by
  by_cases he:fR u g=0
  ·have hlen:(eO u g).length≤200:=by
    unfold fR at he;split at he
    ·contradiction
    ·split at he
     ·cases he
     ·split at he
      ·cases he
      ·omega
   have hf:mK u g=eO u g:=by simp[mK,he]
   have hd:=A4 (mA (eO u g++[0,s.bZ]));have hs:=(xy (eO u g++[0,s.bZ])).length_eq;simp at hs;have hm:sd 1 (mA (eO u g++[0,s.bZ]))=dedup (mA (eO u g++[0,s.bZ]))++List.replicate ((mA (eO u g++[0,s.bZ])).length-(dedup (mA (eO u g++[0,s.bZ]))).length) 0:=rfl;have CX:∀l,sd 0 l=mA l:=fun _=>rfl;have hc:(oU u s g)=(dedup (mA (eO u g++[0,s.bZ]))).filter fun q=>decide (iY u s q):=rfl;rw[if_pos he,hc];have ha:∀l:List Int,dv l++[i64 0,i64 s.bZ]=dv (l++[0,s.bZ]):=fun l=>by simp[dv]
   have hz:[i64 0,i64 s.bZ]=dv [0,s.bZ]:=rfl;have lZ:(eO u g).length+2=(eO u g++[0,s.bZ]).length:=by simp
   have yP:(mA (eO u g++[0,s.bZ])).length=(eO u g++[0,s.bZ]).length:=(xy _).length_eq;by_cases hn:eO u g=[]
   ·rw[hn]at hm hd hs hf yP ⊢
    simp only[List.nil_append]at hm hd hs yP ⊢;have e1:iD 20026 0 (.tuple [own [],i64 0])=some (.tuple [.dH 1,i64 0],none):=rfl;have h2:2=(mA [0,s.bZ]).length:=by rw[yP];rfl
    simp (disch:=omega) [wrap64,GH,LX,he,hf,e1,hz,FY (zs:=[0,s.bZ]) (n:=2) rfl (by omega),CX,FY h2 (by omega),hm]
    refine Vg (u:=u) (s:=s) (L:=dedup (mA [0,s.bZ])) (by omega) fun z=>?_
    simp (disch:=omega) [wrap64,wrap64]
   ·have e1:=abA (id:=20026) (t:=0) (e:=0) hn
    rw[←lZ]at yP;simp (disch:=omega) [wrap64,GH,LX,he,hf,e1,ha,FY lZ (by omega),CX,FY yP.symm (by omega),hm]
    refine Vg (u:=u) (s:=s) (L:=dedup (mA (eO u g++[0,s.bZ]))) (by omega) fun z=>?_
    simp (disch:=omega) [wrap64,wrap64]
  ·rw[if_neg he]
   have hf:mK u g=[]:=by simp[mK,he]
   have e1:iD 20026 0 (.tuple [own [],i64 (fR u g)])=some (.tuple [.dH 1,i64 (fR u g)],none):=rfl;simp (disch:=omega) [wrap64,GH,LX,he,hf,e1])
def zu(us:List Un)(ss:List Us):Prop:=∀i,i<us.length→eJ (nth us i) (nth ss i)
noncomputable instance {us:List Un} {ss:List Us}:Decidable (zu us ss):=Classical.propDecidable _
def zw(us:List Un)(g:Int):Prop:=∀i,i<us.length→fR (nth us i) g=0
noncomputable instance {us:List Un} {g:Int}:Decidable (zw us g):=Classical.propDecidable _
noncomputable def oV(us:List Un)(ss:List Us)(g release:Int):Int :=
 if 6<us.length then 10 else if us.length≠ss.length then 3 else if ¬zu us ss then 3
 else if g<1∨1073741824<g∨release<0∨1073741824<release then 1 else if 200*g<release then 10 else if ¬zw us g then 10 else 0
noncomputable abbrev DN(g:Int)(u:Un)(s:Us):List V:=[.slice none 3 ((oU u s g).map (GY u s))]
theorem wz{α β γ:Type}[Inhabited α][Inhabited β]{f:α→β→γ}{a:List α}{b:List β}{i:Nat}(h1:i<a.length)(h2:i<b.length) :
  List.zipWith f (a.take (i+1)) (b.take (i+1))=List.zipWith f (a.take i) (b.take i)++[f (nth a i) (nth b i)]:=by
 rw[ji h1,ji h2,List.zipWith_append (by simp;omega)]
 rfl
theorem agv(us:List Un)(ss:List Us)(g release:Int)(G:List aP):a8 F 217 [jy us,jg ss,i64 g,i64 release] G =
  some (.tuple [.slice (some 0) 1 (if oV us ss g release=0 then List.zipWith (DN g) us ss else []),i64 (oV us ss g release)],G) :=
 bV rfl rfl (by
  generalize hE:oV us ss g release=E;generalize hW:V.tuple [.slice (some 0) 1 (if E=0 then List.zipWith (DN g) us ss else []),i64 E]=W
  unfold oV at hE;simp +contextual (disch:=omega) [-getElem?_pos,wrap64,Uq];refine bK (fun h1=>?_) (fun h1=>gm (fun h2=>?_) (fun h2=>?_))
  ·rw[if_pos (by omega)]at hE
   subst hE;exact hW
  ·simp[-List.length_eq_zero_iff,-Int.natCast_eq_zero]at h2
   rw[if_neg (by omega),if_pos (by omega)]at hE
   subst hE;exact hW
  ·simp[-List.length_eq_zero_iff,-Int.natCast_eq_zero]at h2
   have hl:us.length=ss.length:=by omega
   rw[if_neg (by omega),if_neg (by omega)]at hE
   refine go_loop (fun i:Nat=>afA (jy us) (jg ss) g release (jy us) us.length i G) (fun i=>i≤us.length∧∀j,j<i→eJ (nth us j) (nth ss j)) (fun i=>us.length-i) 0 rfl (by simp) ⟨by omega,by omega⟩ ?_
   rintro i ⟨hi,hv⟩;simp +contextual (disch:=omega) [-getElem?_pos,wrap64,Uo];refine bK (fun h3=>?_) (fun h3=>?_)
   ·have h3:i<us.length:=by omega
    by_cases h4:eJ (nth us i) (nth ss i)
    ·simp +contextual (disch:=omega) [-getElem?_pos,wrap64,bb (l:=us),bb (l:=ss),xI,h4]
     refine bL (i+1) (by simp) ⟨by omega,fun j hj=>?_⟩ (by omega)
     rcases Nat.lt_or_ge j i with h5|h5
     ·exact hv j h5
     ·rwa [show j=i by omega]
    ·rw[if_pos (fun h=>h4 (h i h3))]at hE
     subst hE;simp +contextual (disch:=omega) [-getElem?_pos,wrap64,bb (l:=us),bb (l:=ss),xI,h4];exact hW
   ·obtain rfl:i=us.length:=by omega
    rw[if_neg (fun h=>h hv)]at hE;by_cases h5:g<1∨1073741824<g
    ·rw[if_pos (by omega)]at hE
     subst hE;have h6:(decide (g<1) || decide (1073741824<g))=true:=by simpa using h5
     simp +contextual (disch:=omega) [-getElem?_pos,wrap64,dj,h6];exact hW
    ·have h6:(decide (g<1) || decide (1073741824<g))=false:=by simpa using h5
     by_cases h7:release<0∨1073741824<release
     ·rw[if_pos (by omega)]at hE
      subst hE;have h8:(!decide (0≤release) || !decide (release≤1073741824))=true:=by simp;omega
      simp +contextual (disch:=omega) [-getElem?_pos,wrap64,dj,h6,h8];exact hW
     ·rw[if_neg (by omega)]at hE
      have h8:(!decide (0≤release) || !decide (release≤1073741824))=false:=by simp;omega
      simp +contextual (disch:=omega) [-getElem?_pos,wrap64,dj,h6,h8];refine bK (fun h9=>?_) (fun h9=>?_)
      ·rw[if_pos h9]at hE
       subst hE;exact hW
      ·rw[if_neg h9]at hE
       refine go_loop (fun i:Nat=>afC (jg ss) g (.slice (some 1079) 1 (List.zipWith (DN g) (us.take i) (ss.take i))) (jy us) us.length i i G)
        (fun i=>i≤us.length∧∀j,j<i→fR (nth us j) g=0) (fun i=>us.length-i) 0 rfl (by simp) ⟨by omega,by omega⟩ ?_
       rintro i ⟨hi,hf⟩;simp +contextual (disch:=omega) [-getElem?_pos,wrap64,Up];refine bK (fun h3=>?_) (fun h3=>?_)
       ·have h3:i<us.length:=by omega
        have fx:i<ss.length:=by omega
        have hC:=agu (hv i h3) (g:=g) (by omega) []
        by_cases h4:fR (nth us i) g=0
        ·rw[if_pos h4]at hC
         simp +contextual (disch:=omega) [-getElem?_pos,wrap64,bb (l:=us),bb (l:=ss),hC];refine bL (i+1) ?_ ⟨by omega,fun j hj=>?_⟩ (by omega)
         ·rw[wz h3 fx];simp
         rcases Nat.lt_or_ge j i with h5|h5
         ·exact hf j h5
         ·rwa [show j=i by omega]
        ·rw[if_neg h4]at hC
         rw[if_pos (fun h=>h4 (h i h3))]at hE;subst hE;simp +contextual (disch:=omega) [-getElem?_pos,wrap64,bb (l:=us),bb (l:=ss),hC];exact hW
       ·obtain rfl:i=us.length:=by omega
        rw[if_neg (fun h=>h hf)]at hE;subst hE;rw[List.take_length,List.take_of_length_le (by omega)]
        simp[←hW,hl])
structure Ch where
 bZ:Int
 iL:Int
 iM:Int
 deriving Inhabited
abbrev Ch.row(c:Ch):List V:=[i64 c.bZ,i64 c.iL,i64 c.iM]
abbrev L6(l:List Ch):List V:=[.slice none 3 (l.map Ch.row)]
abbrev Part:=Option (Int×Int×Int)
def iv:Part→List V
 |none=>[.bool false,i64 0,i64 0,i64 0]
 |some (p,s,f)=>[.bool true,i64 p,i64 s,i64 f]
@[simp] theorem aoJ{p:Part}{d:Nat}:((iv p).all fun v => !v.cj d)=true:=by
 cases p with
 |none=>rfl
 |some q=>rfl
abbrev lj(p:Part):V:=.agg (iv p)
def cQ(rest:Int→Part)(left:Int)(c:Ch)(out:Part):Part:=match rest (left-c.bZ) with
 |none=>out
 |some (p,s,_)=>match out with
  |none=>some (p+c.iL,s+c.iM,c.bZ)
  |some (q,t,f)=>if jh (p+c.iL,s+c.iM) (q,t) [] [] then some (p+c.iL,s+c.iM,c.bZ) else some (q,t,f)
def oA(rest:Int→Part)(left:Int):List Ch→Part→Part
 |[],out=>out
 |c::cs,out=>if left<c.bZ then out else oA rest left cs (cQ rest left c out)
def iN:List (List Ch)→Int→Part
 |[],_=>some (0,0,0)
 |l::ls,left=>oA (iN ls) left l none
def lN:List (List Ch)→Int→Option (List Int)
 |[],_=>some []
 |l::ls,left=>match iN (l::ls) left with
  |none=>none
  |some (_,_,f)=>(lN ls (left-f)).map (f :: ·)
abbrev xN:=List ((Int×Int)×Part)
def pP(m:xN):List (V×V):=m.map fun e=>(.agg [i64 e.1.1,i64 e.1.2],lj e.2)
def vg(LL:List (List Ch))(m:xN):Prop:=∀e∈m,∃i:Nat,e.1.1=i∧e.2=iN (LL.drop i) e.1.2
def gl(n:Nat)(LL:List (List Ch))(m:xN):List aP:=[.cells [.slice none 1 (LL.map L6)],.map (pP m),.cells [.map 1],.cells [.fn n [.bB 0 0,.bB 2 0,.bB 3 0]]]
theorem L7{LL:List (List Ch)}{i:Nat}{left:Int}:∀{m:xN} {k:Nat},vg LL m →
  lG true [0,0] (.agg [i64 i,i64 left]) (pP m) k=some none∨∃j,lG true [0,0] (.agg [i64 i,i64 left]) (pP m) k=some (some (k+j,lj (iN (LL.drop i) left)))∧j<m.length
 |[],k,_=>.inl rfl
 |e::m,k,h=>by
  obtain⟨⟨a,b⟩,p⟩:=e;obtain⟨i',h1,h2⟩:=h ((a,b),p) (by simp)
  simp only at h1 h2;have h3:∀x∈m,∃i:Nat,x.1.1=i∧x.2=iN (LL.drop i) x.1.2:=fun x hx=>h x (by simp[hx])
  have step:lG true [0,0] (.agg [i64 i,i64 left]) (pP (((a,b),p)::m)) k=if (i:Int)=a∧left=b then some (some (k,lj p)) else lG true [0,0] (.agg [i64 i,i64 left]) (pP m) (k+1):=by
   show(match V.lF true [0,0] (.agg [i64 i,i64 left]) (.agg [i64 a,i64 b]) with|some true=>some (some (k,lj p))|some false=>lG true [0,0] (.agg [i64 i,i64 left]) (pP m) (k+1)|none=>none)=_
   have:V.lF true [0,0] (.agg [i64 i,i64 left]) (.agg [i64 a,i64 b])=some (decide ((i:Int)=a∧left=b)):=by
    simp[V.lF,er,ki]<;>(by_cases q1:(i:Int)=a<;>by_cases q2:left=b<;>simp[q1,q2])
   rw[this];by_cases q:(i:Int)=a∧left=b
   ·simp[q]
   ·rw[decide_eq_false q,if_neg q]
  rw[step];split
  ·rename_i q
   refine .inr ⟨0,?_,by simp⟩
   have:i=i':=by omega
   subst this;rw[h2,← q.2];rfl
  ·rcases L7 (k:=k+1) h3 with h4 | ⟨j,h4,h5⟩
   ·exact .inl h4
   ·exact .inr ⟨j+1,by rw[h4];simp;omega,by simp;omega⟩
structure Lb(LL:List (List Ch)):Prop where
 jJ:LL.length≤6
 each:∀i,i<LL.length→(nth LL i).length≤1000
 bZ:∀i j,i<LL.length→j<(nth LL i).length→0≤(nth (nth LL i) j).bZ∧(nth (nth LL i) j).bZ≤1073741824
 iL:∀i j,i<LL.length→j<(nth LL i).length→0≤(nth (nth LL i) j).iL∧(nth (nth LL i) j).iL≤1073741824
 iM:∀i j,i<LL.length→j<(nth LL i).length→0≤(nth (nth LL i) j).iM∧(nth (nth LL i) j).iM≤1
def pb(k:Int):Part→Prop
 |none=>True
 |some (p,s,f)=>(0≤p∧p≤1073741824*k)∧(0≤s∧s≤k)∧0≤f
theorem Vh{rest:Int→Part}{left k:Int}(hr:∀x,pb k (rest x)):∀{l:List Ch} {out:Part},pb (k+1) out →
  (∀c∈l,0≤c.bZ∧(0≤c.iL∧c.iL≤1073741824)∧0≤c.iM∧c.iM≤1)→pb (k+1) (oA rest left l out)
 |[],out,h,_=>h
 |c::cs,out,h,hc=>by
  unfold oA;split
  ·exact h
  ·refine Vh hr ?_ fun c hm=>hc c (by simp[hm])
   have h1:=hr (left-c.bZ);obtain⟨c1,c2,c3⟩:=hc c (by simp)
   have ok:∀p s f,pb k (some (p,s,f))→pb (k+1) (some (p+c.iL,s+c.iM,c.bZ)):=fun p s f q=>by
    simp only[pb]at q ⊢;omega
   unfold cQ;split
   ·exact h
   ·rename_i p s f e
    rw[e]at h1;split
    ·exact ok _ _ _ h1
    ·split
     ·exact ok _ _ _ h1
     ·exact h
theorem Bk{α:Type}[Inhabited α]{l:List α}{a:α}(h:a∈l):∃i,i<l.length∧nth l i=a:=by
 obtain⟨i,hi,rfl⟩:=List.getElem_of_mem h;exact⟨i,hi,by simp[nth,hi]⟩
theorem Vi:∀{LL:List (List Ch)} {left:Int},(∀l∈LL,∀c∈l,0≤c.bZ∧(0≤c.iL∧c.iL≤1073741824)∧0≤c.iM∧c.iM≤1)→pb LL.length (iN LL left)
 |[],left,_=>by simp[iN,pb]
 |l::ls,left,h=>by
  have:=Vh (left:=left) (k:=ls.length) (l:=l) (out:=none) (fun x=>Vi (LL:=ls) (left:=x) fun l hl=>h l (by simp[hl])) trivial (h l (by simp))
  simpa [iN] using this
theorem Lb.all{LL:List (List Ch)}(h:Lb LL):∀l∈LL,∀c∈l,0≤c.bZ∧(0≤c.iL∧c.iL≤1073741824)∧0≤c.iM∧c.iM≤1:=by
 intro l hl c hc;obtain⟨i,hi,rfl⟩:=Bk hl;obtain⟨j,hj,rfl⟩:=Bk hc;exact⟨(h.bZ i j hi hj).1,h.iL i j hi hj,h.iM i j hi hj⟩
theorem Lb.pb{LL:List (List Ch)}(h:Lb LL)(i:Nat)(left:Int):pb (LL.length:Int) (iN (LL.drop i) left):=by
 have h1:=Vi (LL:=LL.drop i) (left:=left) (fun l hl=>h.all l (List.mem_of_mem_drop hl));cases hb:iN (LL.drop i) left with
 |none=>trivial
 |some q =>
  obtain⟨p,s,f⟩:=q;rw[hb]at h1;simp only[Go.Proofs.YtmpikpodpgnjhaaGreat.pb]at h1 ⊢;have:(LL.drop i).length≤LL.length:=by simp
  omega
theorem L8{LL:List (List Ch)}{i:Nat}(h:i<LL.length)(left:Int):iN (LL.drop i) left=oA (iN (LL.drop (i+1))) left (nth LL i) none:=by
 rw[sY h];rfl
theorem agw(a b:Int):V.lF true [0,0] (.agg [i64 a,i64 b]) (.agg [i64 a,i64 b])=some true:=by simp[V.lF,er,ki]
theorem agx{LL:List (List Ch)}(hL:Lb LL):∀(k i:Nat) (left:Int) (m:xN),k=LL.length-i→i≤LL.length→0≤left→left≤1073741824→vg LL m →
  ∃m',a8 F 218 [i64 i,i64 left,.bB 0 0,.bB 2 0,.bB 3 0] (gl 218 LL m)=some (lj (iN (LL.drop i) left),gl 218 LL m')∧vg LL m':=by
 intro k;induction k with
 |zero =>
  intro i left m hk hi h0 h1 hm;obtain rfl:i=LL.length:=by omega
  refine⟨m,bV rfl rfl ?_,hm⟩;rw[List.drop_length,iN];simp (disch:=omega) [-getElem?_pos,wrap64,DD,gl];rfl
 |succ k ih =>
  intro i left m hk hi h0 h1 hm
  suffices h:∀Q:V→List aP→Prop,(∀m',vg LL m'→Q (lj (iN (LL.drop i) left)) (gl 218 LL m'))→gY (a8 F) 218 [i64 i,i64 left,.bB 0 0,.bB 2 0,.bB 3 0] (gl 218 LL m) Q by
   obtain⟨_,_,h,m',h1,rfl,rfl⟩:=h (fun v G=>∃m',vg LL m'∧v=lj (iN (LL.drop i) left)∧G=gl 218 LL m') fun m' a=>⟨m',a,rfl,rfl⟩;exact⟨m',h,h1⟩
  intro Q hQ;refine iu rfl rfl ?_;have br:i<LL.length:=by omega
  have uf:¬(i:Int)=LL.length:=by omega
  have mZ:=agw i left;have Bh:=hL.jJ;rcases L7 (LL:=LL) (i:=i) (left:=left) (m:=m) (k:=0) hm with hf | ⟨j,hf,hj⟩
  ·rw[L8 br left]at hQ
   generalize hW:oA (iN (LL.drop (i+1))) left (nth LL i) none=W at hQ;have hn:=hL.each i br;simp (disch:=omega) [-getElem?_pos,wrap64,DD,gl,uf,mZ,hf,bb (l:=LL)];have uX:∀(out:Part) (m:xN),out=W→vg LL m→(lG true [0,0] (.agg [i64 i,i64 left]) (pP m) 0=some none∧∃m',vg LL m'∧pP m++[(.agg [i64 i,i64 left],lj out)]=pP m') ∨
     ∃j v,lG true [0,0] (.agg [i64 i,i64 left]) (pP m) 0=some (some (j,v))∧∃m',vg LL m'∧(pP m).set j (.agg [i64 i,i64 left],lj out)=pP m':=by
    rintro out m rfl hm;rw[←L8 br left]at hW;rcases L7 (LL:=LL) (i:=i) (left:=left) (m:=m) (k:=0) hm with h5 | ⟨j,h5,hj⟩
    ·refine .inl ⟨h5,m++[(((i:Int),left),out)],fun e he=>?_,by simp[pP]⟩
     rcases List.mem_append.1 he with h6|h6
     ·exact hm e h6
     ·obtain rfl:=List.mem_singleton.1 h6
      exact⟨i,rfl,hW.symm⟩
    ·refine .inr ⟨_,_,h5,m.set (0+j) (((i:Int),left),out),fun e he=>?_,by simp[pP,List.map_set]⟩
     rcases List.mem_or_eq_of_mem_set he with h6|rfl
     ·exact hm e h6
     ·exact⟨i,rfl,hW.symm⟩
   refine go_loop (fun x:Nat×Part×xN=>afF i left (.bB 2 0) (.bB 3 0) (.slice none 3 ((nth LL i).map Ch.row)) (nth LL i).length x.1 [.bool false,i64 0,i64 0,i64 0] (iv x.2.1) (gl 218 LL x.2.2))
    (fun x=>x.1≤(nth LL i).length∧oA (iN (LL.drop (i+1))) left ((nth LL i).drop x.1) x.2.1=W∧vg LL x.2.2) (fun x=>(nth LL i).length-x.1) (0,none,m) rfl (by simp[gl,iv]) ⟨by omega,by simpa using hW,hm⟩ ?_
   rintro⟨j,out,m⟩ ⟨hj,hq,hm⟩;simp only at hj hq hm;simp (disch:=omega) [-getElem?_pos,wrap64,Ur,gl];refine bK (fun h2=>?_) (fun h2=>?_)
   ·have h2:j<(nth LL i).length:=by omega
    have a1:=hL.bZ i j br h2;have a2:=hL.iL i j br h2;have a3:=hL.iM i j br h2;rw[sY h2,oA]at hq;have gt:=bb h2;simp (disch:=omega) [-getElem?_pos,wrap64,gt];refine bK (fun h3=>?_) (fun h3=>?_)
    ·rw[if_pos h3]at hq
     rcases uX out m hq hm with⟨g1,m2,g2,g3⟩ | ⟨j2,v2,g1,m2,g2,g3⟩
     ·have:=hQ m2 g2
      cases nm:W with
      |none =>
       rw[hq]at g3;rw[nm]at this g3;simp only[gl,← g3,lj,iv]at this;simp (disch:=omega) [-getElem?_pos,wrap64,hq,nm,iv,mZ,g1];exact this
      |some q =>
       obtain⟨p,s,f⟩:=q;rw[hq]at g3;rw[nm]at this g3;simp only[gl,← g3,lj,iv]at this;simp (disch:=omega) [-getElem?_pos,wrap64,hq,nm,iv,mZ,g1];exact this
     ·have:=hQ m2 g2
      cases nm:W with
      |none =>
       rw[hq]at g3;rw[nm]at this g3;simp only[gl,← g3,lj,iv]at this;simp (disch:=omega) [-getElem?_pos,wrap64,hq,nm,iv,mZ,g1];exact this
      |some q =>
       obtain⟨p,s,f⟩:=q;rw[hq]at g3;rw[nm]at this g3;simp only[gl,← g3,lj,iv]at this;simp (disch:=omega) [-getElem?_pos,wrap64,hq,nm,iv,mZ,g1];exact this
    ·obtain⟨m',hI,sU⟩:=ih (i+1) (left-(nth (nth LL i) j).bZ) m (by omega) (by omega) (by omega) (by omega) hm
     have hp:=hL.pb (i+1) (left-(nth (nth LL i) j).bZ);rw[if_neg h3]at hq;unfold cQ at hq;simp only[gl]at hI
     push_cast at hI
     cases hb:iN (LL.drop (i+1)) (left-(nth (nth LL i) j).bZ) with
     |none =>
      rw[hb]at hI hp hq;simp only[lj,iv]at hI;simp only at hq;simp (disch:=omega) [-getElem?_pos,wrap64,hI];exact bL (j+1,out,m') (by simp[gl]) ⟨by omega,hq,sU⟩ (by simp;omega)
     |some q =>
      obtain⟨p,s,f⟩:=q;rw[hb]at hI hp hq;simp only[lj,iv]at hI;simp only at hq;simp only[pb]at hp;have hB:=fun a b=>ags a b [] [] (by simp) []
      simp only[ints,List.map_nil]at hB;cases out with
      |none =>
       simp only at hq;simp (disch:=omega) [-getElem?_pos,wrap64,hI,iv];exact bL (j+1,some (p+(nth (nth LL i) j).iL,s+(nth (nth LL i) j).iM,(nth (nth LL i) j).bZ),m') (by simp[gl,iv]) ⟨by omega,hq,sU⟩ (by simp;omega)
      |some o =>
       obtain⟨p',s',f'⟩:=o;simp only at hq;by_cases wA:jh (p+(nth (nth LL i) j).iL,s+(nth (nth LL i) j).iM) (p',s') [] []
       ·rw[if_pos wA]at hq
        have hB:=hB (p+(nth (nth LL i) j).iL,s+(nth (nth LL i) j).iM) (p',s');simp (disch:=omega) [-getElem?_pos,wrap64,hI,iv,hB,wA];exact bL (j+1,some (p+(nth (nth LL i) j).iL,s+(nth (nth LL i) j).iM,(nth (nth LL i) j).bZ),m') (by simp[gl,iv]) ⟨by omega,hq,sU⟩ (by simp;omega)
       ·rw[if_neg wA]at hq
        have hB:=hB (p+(nth (nth LL i) j).iL,s+(nth (nth LL i) j).iM) (p',s');simp (disch:=omega) [-getElem?_pos,wrap64,hI,iv,hB,wA];exact bL (j+1,some (p',s',f'),m') (by simp[gl,iv]) ⟨by omega,hq,sU⟩ (by simp;omega)
   ·obtain rfl:j=(nth LL i).length:=by omega
    rw[List.drop_length,oA]at hq;rcases uX out m hq hm with⟨g1,m2,g2,g3⟩ | ⟨j2,v2,g1,m2,g2,g3⟩
    ·have:=hQ m2 g2
     cases nm:W with
     |none =>
      rw[hq]at g3;rw[nm]at this g3;simp only[gl,← g3,lj,iv]at this;simp (disch:=omega) [-getElem?_pos,wrap64,hq,nm,iv,mZ,g1];exact this
     |some q =>
      obtain⟨p,s,f⟩:=q;rw[hq]at g3;rw[nm]at this g3;simp only[gl,← g3,lj,iv]at this;simp (disch:=omega) [-getElem?_pos,wrap64,hq,nm,iv,mZ,g1];exact this
    ·have:=hQ m2 g2
     cases nm:W with
     |none =>
      rw[hq]at g3;rw[nm]at this g3;simp only[gl,← g3,lj,iv]at this;simp (disch:=omega) [-getElem?_pos,wrap64,hq,nm,iv,mZ,g1];exact this
     |some q =>
      obtain⟨p,s,f⟩:=q;rw[hq]at g3;rw[nm]at this g3;simp only[gl,← g3,lj,iv]at this;simp (disch:=omega) [-getElem?_pos,wrap64,hq,nm,iv,mZ,g1];exact this
  ·cases hb:iN (LL.drop i) left with
   |none =>
    rw[hb]at hf hQ;simp only[lj,iv]at hf;simp (disch:=omega) [-getElem?_pos,wrap64,DD,gl,uf,mZ,hf];exact hQ m hm
   |some q =>
    obtain⟨p,s,f⟩:=q;rw[hb]at hf hQ;simp only[lj,iv]at hf;simp (disch:=omega) [-getElem?_pos,wrap64,DD,gl,uf,mZ,hf];exact hQ m hm
noncomputable def DP(g:Int)(u:Un)(s:Us):List Ch:=(oU u s g).map fun q=>⟨q,pow u q,gS s q⟩
noncomputable def iw(us:List Un)(ss:List Us)(g:Int):List (List Ch):=List.zipWith (DP g) us ss
theorem agy(us:List Un)(ss:List Us)(g:Int):List.zipWith (DN g) us ss=(iw us ss g).map L6:=by
 rw[iw,List.map_zipWith];congr 1;funext u s;simp[DP,DN,L6]
theorem L9{u:Un}{g:Int}(h:fR u g=0):(eO u g).length≤200:=by
 unfold fR at h;split at h
 ·contradiction
 ·split at h
  ·cases h
  ·split at h
   ·cases h
   ·omega
theorem agz{u:Un}{s:Us}{g:Int}(h:fR u g=0):(oU u s g).length≤202:=by
 have h1:=L9 h;have h2:=A4 (mA (eO u g++[0,s.bZ]));have h3:=(xy (eO u g++[0,s.bZ])).length_eq;have h4:(oU u s g).length≤(dedup (mA (eO u g++[0,s.bZ]))).length:=List.length_filter_le _ _;simp at h3;omega
structure G4(us:List Un)(ss:List Us)(g:Int):Prop where
 jJ:us.length≤6
 len:us.length=ss.length
 valid:zu us ss
 aoK:1≤g∧g≤1073741824
 Vj:zw us g
theorem Ma{us:List Un}{ss:List Us}{g release:Int}(h:oV us ss g release=0):G4 us ss g∧(0≤release∧release≤1073741824)∧release≤200*g:=by
 unfold oV at h;split at h
 ·cases h
 ·split at h
  ·cases h
  ·split at h
   ·cases h
   ·split at h
    ·cases h
    ·split at h
     ·cases h
     ·split at h
      ·cases h
      ·rename_i h1 h2 h3 h4 h5 h6
       exact⟨⟨by omega,Decidable.of_not_not h2,Decidable.of_not_not h3,by omega,Decidable.of_not_not h6⟩,by omega,by omega⟩
theorem Mb{us:List Un}{ss:List Us}{g:Int}(h:us.length=ss.length):(iw us ss g).length=us.length:=by simp[iw,h]
theorem vh{α β:Type}[Inhabited α][Inhabited β]{f:α→β}{l:List α}{i:Nat}(h:i<l.length):nth (l.map f) i=f (nth l i):=by
 simp[nth,h]
theorem Bl{α β γ:Type}[Inhabited α][Inhabited β][Inhabited γ]{f:α→β→γ}{a:List α}{b:List β}{i:Nat}(h1:i<a.length)(h2:i<b.length):nth (List.zipWith f a b) i=f (nth a i) (nth b i):=by
 simp[nth,List.getElem?_zipWith,h1,h2]
theorem pR{α:Type}[Inhabited α]{l:List α}{i:Nat}(h:i<l.length):nth l i∈l:=List.mem_of_getElem? (bb h)
theorem Vk{us:List Un}{ss:List Us}{g:Int}(h:G4 us ss g):Lb (iw us ss g):=by
 have hl:=h.len;have e:∀i,i<(iw us ss g).length→nth (iw us ss g) i=DP g (nth us i) (nth ss i):=fun i hi=>by
  rw[Mb hl]at hi;exact Bl hi (by omega)
 have c:∀i j,i<(iw us ss g).length→j<(nth (iw us ss g) i).length→∃q,iY (nth us i) (nth ss i) q∧nth (nth (iw us ss g) i) j=⟨q,pow (nth us i) q,gS (nth ss i) q⟩:=fun i j hi hj=>by
  rw[e i hi]at hj ⊢;have sD:j<(oU (nth us i) (nth ss i) g).length:=by simpa [DP] using hj
  refine⟨nth (oU (nth us i) (nth ss i) g) j,?_,vh sD⟩;have:=pR sD;simp only[oU,List.mem_filter,decide_eq_true_eq]at this;exact this.2
 refine⟨by rw[Mb hl];exact h.jJ,fun i hi=>?_,fun i j hi hj=>?_,fun i j hi hj=>?_,fun i j hi hj=>?_⟩
 ·rw[e i hi]
  rw[Mb hl]at hi;have:=agz (s:=nth ss i) (h.Vj i hi);simp[DP];omega
 ·obtain⟨q,h1,h2⟩:=c i j hi hj
  rw[h2];exact GW h1
 ·obtain⟨q,h1,h2⟩:=c i j hi hj
  rw[h2];exact GX
 ·obtain⟨q,h1,h2⟩:=c i j hi hj
  rw[h2];exact L4
noncomputable def jA(us:List Un)(ss:List Us)(g release:Int):Int:=if oV us ss g release≠0 then oV us ss g release else if lN (iw us ss g) release=none then 9 else 0
noncomputable def gB(us:List Un)(ss:List Us)(g release:Int):List Int:=if oV us ss g release≠0 then [] else (lN (iw us ss g) release).getD []
theorem Vl{LL:List (List Ch)}:∀{l:List Ch} {rest:Int→Part} {left:Int} {out:Part} {p s f:Int},(∀q t e,out=some (q,t,e)→e≤left)→oA rest left l out=some (p,s,f)→f≤left
 |[],rest,left,out,p,s,f,h,he=>h _ _ _ (by simpa [oA] using he)
 |c::cs,rest,left,out,p,s,f,h,he=>by
  unfold oA at he;split at he
  ·exact h _ _ _ he
  ·refine Vl (LL:=LL) (fun q t e hq=>?_) he
   unfold cQ at hq;split at hq
   ·exact h _ _ _ hq
   ·split at hq
    ·cases hq;omega
    ·split at hq
     ·cases hq;omega
     ·cases hq;exact h _ _ _ rfl
theorem agA(us:List Un)(ss:List Us)(g release:Int):∃G',a8 F 206 [jy us,jg ss,i64 g,i64 release] []=some (.tuple [own (gB us ss g release),i64 (jA us ss g release)],G'):=by
 suffices h:∀Q:V→List aP→Prop,(∀G,Q (.tuple [own (gB us ss g release),i64 (jA us ss g release)]) G)→gY (a8 F) 206 [jy us,jg ss,i64 g,i64 release] [] Q by
  obtain⟨_,_,h,rfl⟩:=h (fun v _=>v=.tuple [own (gB us ss g release),i64 (jA us ss g release)]) fun _=>rfl;exact⟨_,h⟩
 intro Q hQ;refine iu rfl rfl ?_;have hS:=agv us ss g release [];by_cases h0:oV us ss g release=0
 ·rw[h0,if_pos rfl,agy]at hS
  obtain⟨h1,h2,h3⟩:=Ma h0;have hL:=Vk h1;have eL:gB us ss g release=(lN (iw us ss g) release).getD []:=by simp[gB,h0]
  have eE:jA us ss g release=if lN (iw us ss g) release=none then 9 else 0:=by simp[jA,h0]
  rw[eL,eE]at hQ;have Bh:=hL.jJ;generalize hLL:iw us ss g=LL at *;simp (disch:=omega) [wrap64,Lr,hS];refine go_loop (fun x:List Int×Int×xN=>afs (.bB 0 0) (.bB 3 0) (.slice (some 1048) 1 (x.1.map fun n=>[i64 n])) x.2.1 x.1.length (gl 218 LL x.2.2))
   (fun x=>x.1.length≤LL.length∧(0≤x.2.1∧x.2.1≤1073741824)∧(lN (LL.drop x.1.length) x.2.1).map (x.1 ++ ·)=lN LL release∧vg LL x.2.2) (fun x=>LL.length-x.1.length) ([],release,[]) rfl (by simp[gl,pP]) ⟨by simp,by simpa using h2,by simp,fun e he=>by simp at he⟩ ?_
  rintro⟨fs,left,m⟩ ⟨i1,i2,i3,i4⟩;simp only at i1 i2 i3 i4;simp (disch:=omega) [wrap64,Uf,gl];refine bK (fun h4=>?_) (fun h4=>?_)
  ·have h4:fs.length<LL.length:=by omega
   obtain⟨m',hI,sU⟩:=agx hL (LL.length-fs.length) fs.length left m rfl i1 i2.1 i2.2 i4;have hp:=hL.pb fs.length left;have hd:LL.drop fs.length=nth LL fs.length::LL.drop (fs.length+1):=sY h4;rw[hd,lN,← hd]at i3;cases hb:iN (LL.drop fs.length) left with
   |none =>
    rw[hb]at hI i3;simp only[lj,iv,gl]at hI;simp only[Option.map_none]at i3;rw[←i3]at hQ;simp only[if_true,Option.getD_none]at hQ;simp (disch:=omega) [wrap64,hI];exact hQ _
   |some q =>
    obtain⟨p,s,f⟩:=q;rw[hb]at hI i3 hp;have hf:f≤left:=by
     rw[L8 h4]at hb;exact Vl (LL:=LL) (fun q t e hq=>by cases hq) hb
    simp only[lj,iv,gl]at hI;simp only[pb]at hp;simp only at i3;simp (disch:=omega) [wrap64,hI];refine bL (fs++[f],left-f,m') (by simp[gl]) ⟨by simp;omega,by simp;omega,?_,sU⟩ (by simp;omega)
    rw[←i3];simp[Function.comp_def]
  ·have e:fs.length=LL.length:=by omega
   rw[e,List.drop_length,lN]at i3;simp only[Option.map_some,List.append_nil]at i3;rw[←i3]at hQ;simpa using hQ _
 ·rw[if_neg h0]at hS
  have eL:gB us ss g release=[]:=by simp[gB,h0]
  have eE:jA us ss g release=oV us ss g release:=by simp[jA,h0]
  rw[eL,eE]at hQ;simp (disch:=omega) [wrap64,Lr,hS,h0];exact hQ _
end Go.Proofs.YtmpikpodpgnjhaaGreat
namespace Go.Proofs.YtmpikpodpgnjhaaGreat
set_option linter.all false
open Go.Vm
def ug(a b:Int×Int):Prop:=b.1<a.1∨(a.1=b.1∧a.2<b.2)
theorem wB{a b:Int×Int}{p q:List Int}:jh a b p q↔ug a b∨(a.1=b.1∧a.2=b.2∧fK p q<0):=by
 unfold jh ug;split
 ·omega
 ·split<;>omega
theorem agC{a:Int}{p q:List Int}:fK (a::p) (a::q)=fK p q:=by simp[fK]
theorem agD{a b:Int}{p q:List Int}(h:b<a):¬fK (a::p) (b::q)<0:=by
 simp only[fK];rw[if_neg (by omega),if_pos h]
 omega
def sZ:List (List Ch)→List Ch→Prop
 |[],[]=>True
 |l::ls,c::P=>c∈l∧sZ ls P
 |_,_=>False
def sF(P:List Ch):Int:=(P.map Ch.bZ).sum
def sP(P:List Ch):Int:=(P.map Ch.iL).sum
def sS(P:List Ch):Int:=(P.map Ch.iM).sum
theorem agE{LL:List (List Ch)}:∀{P:List Ch},(∀l∈LL,∀c∈l,0≤c.bZ)→sZ LL P→0≤sF P:=by
 induction LL with
 |nil=>intro P _ hp;cases P with
  |nil=>simp[sF]
  |cons c P=>exact hp.elim
 |cons l ls ih =>
  intro P h hp;cases P with
  |nil=>exact hp.elim
  |cons c P =>
   have h1:=ih (fun l hl=>h l (by simp[hl])) hp.2
   have h2:=h l (by simp) c hp.1
   simp only[sF,List.map_cons,List.sum_cons]at h1 ⊢;omega
structure Top(LL:List (List Ch))(left:Int)(P:List Ch):Prop where
 zx:sZ LL P
 sum:sF P≤left
 best:∀Q,sZ LL Q→sF Q≤left→¬jh (sP Q,sS Q) (sP P,sS P) (Q.map Ch.bZ) (P.map Ch.bZ)
structure Jn(ls:List (List Ch))(left:Int)(pre:List Ch)(p s f:Int)(c:Ch)(P:List Ch):Prop where
 mem:c∈pre
 bZ:c.bZ=f
 zx:sZ ls P
 sum:c.bZ+sF P≤left
 iL:c.iL+sP P=p
 iM:c.iM+sS P=s
 rest:lN ls (left-f)=some (P.map Ch.bZ)
 best:∀d∈pre,∀Q,sZ ls Q→d.bZ+sF Q≤left→¬jh (d.iL+sP Q,d.iM+sS Q) (p,s) (d.bZ::Q.map Ch.bZ) (c.bZ::P.map Ch.bZ)
def J(ls:List (List Ch))(left:Int)(pre:List Ch):Part→Prop
 |none=>∀c∈pre,∀Q,sZ ls Q→left<c.bZ+sF Q
 |some (p,s,f)=>∃c P,Jn ls left pre p s f c P
theorem Vn{ls:List (List Ch)}{left:Int}{pre:List Ch}{out:Part}{l:List Ch}(h:J ls left pre out)(hn:∀c∈l,∀Q,sZ ls Q→left<c.bZ+sF Q):J ls left (pre++l) out:=by
 cases out with
 |none =>
  intro c hc Q hQ;rcases List.mem_append.1 hc with h1|h1
  ·exact h c h1 Q hQ
  ·exact hn c h1 Q hQ
 |some q =>
  obtain⟨p,s,f⟩:=q;obtain⟨c,P,j⟩:=h;refine⟨c,P,⟨by simp[j.mem],j.bZ,j.zx,j.sum,j.iL,j.iM,j.rest,fun d hd Q hQ hs=>?_⟩⟩
  rcases List.mem_append.1 hd with h1|h1
  ·exact j.best d h1 Q hQ hs
  ·have:=hn d h1 Q hQ
   omega
def Good(ls:List (List Ch)):Prop:=∀left,0≤left→match iN ls left with
 |none=>∀Q,sZ ls Q→left<sF Q
 |some (p,s,_)=>∃P,Top ls left P∧sP P=p∧sS P=s∧lN ls left=some (P.map Ch.bZ)
theorem agH{ls:List (List Ch)}(hg:Good ls){left:Int}{pre:List Ch}{out:Part}{c:Ch}(h:J ls left pre out)(G5:∀d∈pre,d.bZ<c.bZ)(hle:c.bZ≤left):J ls left (pre++[c]) (cQ (iN ls) left c out):=by
 have hg:=hg (left-c.bZ) (by omega)
 unfold cQ;cases hb:iN ls (left-c.bZ) with
 |none =>
  rw[hb]at hg;exact Vn h fun d hd Q hQ=>by
   obtain rfl:=List.mem_singleton.1 hd;have:=hg Q hQ;omega
 |some q =>
  obtain⟨p0,s0,f0⟩:=q;rw[hb]at hg;obtain⟨P0,t,rfl,rfl,e0⟩:=hg;have new:∀d∈[c],∀Q,sZ ls Q→d.bZ+sF Q≤left→¬jh (d.iL+sP Q,d.iM+sS Q) (sP P0+c.iL,sS P0+c.iM) (d.bZ::Q.map Ch.bZ) (c.bZ::P0.map Ch.bZ):=by
   intro d hd Q hQ hs ui;obtain rfl:=List.mem_singleton.1 hd;refine t.best Q hQ (by omega) ?_
   rw[wB]at ui ⊢;rw[agC]at ui;unfold ug at ui ⊢;simp only at ui ⊢;omega
  have ts:=t.sum;cases out with
  |none =>
   simp only;refine⟨c,P0,⟨by simp,rfl,t.zx,by omega,by omega,by omega,e0,fun d hd Q hQ hs=>?_⟩⟩
   rcases List.mem_append.1 hd with h1|h1
   ·have:=h d h1 Q hQ;omega
   ·exact new d h1 Q hQ hs
  |some o =>
   obtain⟨p,s,f⟩:=o;obtain⟨c1,P1,j⟩:=h;simp only;split
   ·rename_i ui
    rw[wB]at ui;have hv:ug (sP P0+c.iL,sS P0+c.iM) (p,s):=by
     rcases ui with h|h
     ·exact h
     ·simp[fK]at h
    unfold ug at hv;simp only at hv;refine⟨c,P0,⟨by simp,rfl,t.zx,by omega,by omega,by omega,e0,fun d hd Q hQ hs=>?_⟩⟩
    rcases List.mem_append.1 hd with h1|h1
    ·have:=j.best d h1 Q hQ hs
     rw[wB]at this ⊢;unfold ug at this ⊢;simp only at this ⊢;omega
    ·exact new d h1 Q hQ hs
   ·rename_i ui
    rw[wB]at ui;unfold ug at ui;simp only at ui;refine⟨c1,P1,⟨by simp[j.mem],j.bZ,j.zx,j.sum,j.iL,j.iM,j.rest,fun d hd Q hQ hs=>?_⟩⟩
    rcases List.mem_append.1 hd with h1|h1
    ·exact j.best d h1 Q hQ hs
    ·have h2:=new d h1 Q hQ hs
     obtain rfl:=List.mem_singleton.1 h1;have h3:=agD (p:=Q.map Ch.bZ) (q:=P1.map Ch.bZ) (G5 c1 j.mem);rw[wB]at h2 ⊢;unfold ug at h2 ⊢;simp only at h2 ⊢;omega
theorem Vp{ls:List (List Ch)}(hg:Good ls)(h0:∀l∈ls,∀c∈l,0≤c.bZ){left:Int}:∀{cs pre:List Ch} {out:Part},(pre++cs).Pairwise (fun a b=>a.bZ<b.bZ)→J ls left pre out→J ls left (pre++cs) (oA (iN ls) left cs out)
 |[],pre,out,_,h=>by simpa [oA] using h
 |c::cs,pre,out,hp,h=>by
  have vF:=List.pairwise_append.1 hp;unfold oA;split
  ·rename_i br
   refine Vn h fun d hd Q hQ=>?_;have:=agE h0 hQ;rcases List.mem_cons.1 hd with rfl|h1
   ·omega
   ·have:=(List.pairwise_cons.1 vF.2.1).1 d h1
    omega
  ·have h1:=agH hg h (c:=c) (fun d hd=>vF.2.2 d hd c (by simp)) (by omega)
   have h2:=Vp hg h0 (cs:=cs) (pre:=pre++[c]) (by simpa using hp) h1
   simpa using h2
def Vq(LL:List (List Ch)):Prop:=∀l∈LL,l.Pairwise fun a b=>a.bZ<b.bZ
theorem Vr:∀{LL:List (List Ch)},(∀l∈LL,∀c∈l,0≤c.bZ)→Vq LL→Good LL
 |[],_,_=>fun left h0=>by
  simp only[iN];refine⟨[],⟨trivial,by simpa [sF] using h0,fun Q hQ _=>?_⟩,rfl,rfl,rfl⟩
  cases Q with
  |nil=>simp[jh,fK]
  |cons c Q=>exact hQ.elim
 |l::ls,h0,ha=>fun left qh=>by
  have hg:Good ls:=Vr (fun l hl=>h0 l (by simp[hl])) (fun l hl=>ha l (by simp[hl]))
  have hj:=Vp hg (fun l hl=>h0 l (by simp[hl])) (left:=left) (cs:=l) (pre:=[]) (out:=none) (by simpa using ha l (by simp)) (fun c hc=>by simp at hc)
  simp only[List.nil_append]at hj;have e:iN (l::ls) left=oA (iN ls) left l none:=rfl;rw[e];cases hb:oA (iN ls) left l none with
  |none =>
   rw[hb]at hj;intro Q hQ;cases Q with
   |nil=>exact hQ.elim
   |cons c Q =>
    have:=hj c hQ.1 Q hQ.2;simpa [sF] using this
  |some q =>
   obtain⟨p,s,f⟩:=q;rw[hb]at hj;obtain⟨c,P,j⟩:=hj;have j4:=j.sum;have j5:=j.iL;have j6:=j.iM;refine⟨c::P,⟨⟨j.mem,j.zx⟩,by simpa [sF] using j4,fun Q hQ hs=>?_⟩,by simpa [sP] using j5,by simpa [sS] using j6,?_⟩
   ·cases Q with
    |nil=>exact hQ.elim
    |cons d Q =>
     have:=j.best d hQ.1 Q hQ.2 (by simpa [sF] using hs)
     have e1:sP (c::P)=p:=by simpa [sP] using j5
     have e2:sS (c::P)=s:=by simpa [sS] using j6
     rw[e1,e2];simpa [sP,sS] using this
   ·rw[lN,e,hb]
    simp only;rw[j.rest];simp[j.bZ]
end Go.Proofs.YtmpikpodpgnjhaaGreat
namespace Go.Proofs.YtmpikpodpgnjhaaGreat
set_option linter.all false
open Go.Vm
theorem Mc{x:Int}:∀{l:List Int},x∈dedup l↔x∈l
 |[]=>Iff.rfl
 |[a]=>Iff.rfl
 |a::b::r=>by
  have ih:=Mc (x:=x) (l:=b::r);unfold dedup;by_cases h:a=b
  ·simp only[h,beq_self_eq_true,cond_true,ih]
   simp
  ·have h':(a==b)=false:=by simpa using h
   simp only[h',cond_false,List.mem_cons,ih]
theorem Vu:∀{l:List Int},l.Pairwise (· ≤ ·)→(dedup l).Pairwise (· < ·)
 |[],_=>.nil
 |[a],_=>by simp[dedup]
 |a::b::r,h=>by
  obtain⟨h1,h2⟩:=List.pairwise_cons.1 h;have ih:=Vu h2;unfold dedup;by_cases pN:a=b
  ·simp only[pN,beq_self_eq_true,cond_true]
   exact ih
  ·have h':(a==b)=false:=by simpa using pN
   simp only[h',cond_false,List.pairwise_cons];refine⟨fun x hx=>?_,ih⟩;rw[Mc]at hx;have h3:=h1 b (by simp)
   rcases List.mem_cons.1 hx with rfl|h4
   ·omega
   ·have:=(List.pairwise_cons.1 h2).1 x h4
    omega
theorem Bo{u:Un}{s:Us}{g q:Int}:q∈oU u s g↔(q∈eO u g∨q=0∨q=s.bZ)∧iY u s q:=by
 simp only[oU,List.mem_filter,Mc,(xy _).mem_iff,decide_eq_true_eq,List.mem_append,List.mem_cons,List.not_mem_nil,or_false]
theorem agJ{u:Un}{s:Us}{g:Int}:(oU u s g).Pairwise (· < ·):=(Vu (Kk _)).filter _
def lp(g:Int):List Un→List Us→List Int→Prop
 |u::us,s::ss,q::F=>q∈oU u s g∧lp g us ss F
 |[],[],[]=>True
 |_,_,_=>False
noncomputable def g6:List Un→List Int→Int
 |u::us,q::F=>pow u q+g6 us F
 |_,_=>0
def g7:List Us→List Int→Int
 |s::ss,q::F=>gS s q+g7 ss F
 |_,_=>0
noncomputable def s6:List Un→List Us→List Int→List Ch
 |u::us,s::ss,q::F=>⟨q,pow u q,gS s q⟩::s6 us ss F
 |_,_,_=>[]
theorem zy{g:Int}:∀{us:List Un} {ss:List Us} {F:List Int},lp g us ss F→F.length=us.length∧F.length=ss.length
 |[],[],[],_=>⟨rfl,rfl⟩
 |_::_,_::_,_::_,h=>by have:=zy h.2;simp;omega
 |[],_::_,_,h=>h.elim
 |[],[],_::_,h=>h.elim
 |_::_,[],_,h=>h.elim
 |_::_,_::_,[],h=>h.elim
theorem G6{g:Int}:∀{us:List Un} {ss:List Us} {F:List Int},lp g us ss F→sZ (iw us ss g) (s6 us ss F)∧(s6 us ss F).map Ch.bZ=F∧sF (s6 us ss F)=F.sum∧sP (s6 us ss F)=g6 us F∧sS (s6 us ss F)=g7 ss F
 |[],[],[],_=>⟨trivial,rfl,rfl,rfl,rfl⟩
 |u::us,s::ss,q::F,h=>by
  obtain⟨h1,h2,h3,h4,h5⟩:=G6 h.2;refine⟨⟨List.mem_map.2 ⟨q,h.1,rfl⟩,h1⟩,by simp[s6,h2],?_,?_,?_⟩
  ·simp only[sF]at h3 ⊢;simp[s6,h3]
  ·simp only[sP]at h4 ⊢;simp[s6,g6,h4]
  ·simp only[sS]at h5 ⊢;simp[s6,g7,h5]
 |[],_::_,_,h=>h.elim
 |[],[],_::_,h=>h.elim
 |_::_,[],_,h=>h.elim
 |_::_,_::_,[],h=>h.elim
theorem Vv{g:Int}:∀{us:List Un} {ss:List Us} {P:List Ch},us.length=ss.length→sZ (iw us ss g) P→lp g us ss (P.map Ch.bZ)∧P=s6 us ss (P.map Ch.bZ)
 |[],[],[],_,_=>⟨trivial,rfl⟩
 |[],[],_::_,_,h=>h.elim
 |[],_::_,_,h,_=>by simp at h
 |_::_,[],_,h,_=>by simp at h
 |_::_,_::_,[],_,h=>h.elim
 |u::us,s::ss,c::P,hl,h=>by
  obtain⟨h1,h2⟩:=Vv (by simpa using hl) h.2
  obtain⟨q,hq,rfl⟩:=List.mem_map.1 h.1;exact⟨⟨hq,h1⟩,by simp[s6];exact h2⟩
structure zA(g:Int)(us:List Un)(ss:List Us)(left:Int)(F:List Int):Prop where
 lp:lp g us ss F
 sum:F.sum≤left
 best:∀E,Go.Proofs.YtmpikpodpgnjhaaGreat.lp g us ss E→E.sum≤left→¬jh (g6 us E,g7 ss E) (g6 us F,g7 ss F) E F
theorem Vw{g:Int}:∀{us:List Un} {ss:List Us},Vq (iw us ss g)
 |[],_=>fun l hl=>by simp[iw]at hl
 |_::_,[]=>fun l hl=>by simp[iw]at hl
 |u::us,s::ss=>fun l hl=>by
  rcases List.mem_cons.1 hl with rfl|h
  ·exact List.pairwise_map.2 agJ
  ·exact Vw (us:=us) (ss:=ss) l h
theorem Vx{us:List Un}{ss:List Us}{g left:Int}(hs:G4 us ss g)(h0:0≤left) :
  match lN (iw us ss g) left with
  |none=>∀F,lp g us ss F→left<F.sum
  |some F=>zA g us ss left F:=by
 have hL:=Vk hs;have hn:∀l∈iw us ss g,∀c∈l,0≤c.bZ:=fun l hl c hc=>(hL.all l hl c hc).1;have hg:=Vr hn Vw;have yJ:=hg left h0;cases hb:iN (iw us ss g) left with
 |none =>
  rw[hb]at yJ;have e:lN (iw us ss g) left=none:=by
   cases hl:iw us ss g with
   |nil=>rw[hl]at hb;simp[iN]at hb
   |cons l ls=>rw[lN,← hl,hb]
  rw[e];intro F hF;obtain⟨h1,_,h3,_⟩:=G6 hF;have:=yJ _ h1;omega
 |some q =>
  obtain⟨p,s,f⟩:=q;rw[hb]at yJ;obtain⟨P,t,_,_,e⟩:=yJ;rw[e];obtain⟨h1,h2⟩:=Vv hs.len t.zx;obtain⟨_,_,h3,h4,h5⟩:=G6 h1;rw[←h2]at h3 h4 h5;refine⟨h1,by have:=t.sum;omega,fun E hE hs=>?_⟩
  obtain⟨e1,e2,e3,e4,e5⟩:=G6 hE;have:=t.best _ e1 (by omega)
  rwa [e2,e4,e5,h4,h5]at this
theorem Vy:∀{p q:List Int},p.length=q.length→(fK p q<0∨fK q p<0∨p=q)
 |[],[],_=>.inr (.inr rfl)
 |[],_::_,h=>by simp at h
 |_::_,[],h=>by simp at h
 |a::p,b::q,h=>by
  have ih:=Vy (p:=p) (q:=q) (by simpa using h)
  simp only[fK];rcases Int.lt_trichotomy a b with h1|h1|h1
  ·left;simp[h1]
  ·subst h1
   simp only[Int.lt_irrefl,if_false];rcases ih with h2|h2|h2
   ·exact .inl h2
   ·exact .inr (.inl h2)
   ·exact .inr (.inr (by rw[h2]))
  ·right;left;simp[h1]
theorem agK{a b:Int×Int}{p q:List Int}(h:p.length=q.length):jh a b p q∨jh b a q p∨(a=b∧p=q):=by
 rw[wB,wB];unfold ug;obtain⟨a1,a2⟩:=a;obtain⟨b1,b2⟩:=b;rcases Vy h with h1|h1|h1
 ·simp only[Prod.mk.injEq];omega
 ·simp only[Prod.mk.injEq];omega
 ·simp only[Prod.mk.injEq,h1,and_true];omega
theorem zA.unique{g:Int}{us:List Un}{ss:List Us}{left:Int}{F E:List Int}(h:zA g us ss left F)(h':zA g us ss left E):F=E:=by
 have l1:=zy h.lp;have l2:=zy h'.lp;rcases agK (a:=(g6 us F,g7 ss F)) (b:=(g6 us E,g7 ss E)) (p:=F) (q:=E) (by omega) with h1|h1|h1
 ·exact absurd h1 (h'.best F h.lp h.sum)
 ·exact absurd h1 (h.best E h'.lp h'.sum)
 ·exact h1.2
theorem Vz{g:Int}:∀{us:List Un} {ss:List Us} {F:List Int} {a b c:Int},lp g us ss F→wy us ss F (a,b,c)=some (a+F.sum,b+g6 us F,c+g7 ss F)
 |[],[],[],a,b,c,_=>by simp[wy,g6,g7]
 |u::us,s::ss,q::F,a,b,c,h=>by
  rw[wy,if_pos (Bo.1 h.1).2,Vz h.2];simp only[List.sum_cons,g6,g7,Option.some.injEq,Prod.mk.injEq];omega
 |[],_::_,_,_,_,_,h=>h.elim
 |[],[],_::_,_,_,_,h=>h.elim
 |_::_,[],_,_,_,_,h=>h.elim
 |_::_,_::_,[],_,_,_,h=>h.elim
theorem VA{g:Int}{us:List Un}{ss:List Us}{F:List Int}(h:lp g us ss F):zt us ss F=some (F.sum,g6 us F,g7 ss F):=by
 have l:=zy h;rw[zt,if_pos (by omega),Vz h]
 simp
end Go.Proofs.YtmpikpodpgnjhaaGreat
namespace Go.Proofs.YtmpikpodpgnjhaaGreat
set_option linter.all false
open Go.Vm
theorem VB:∀{p q:List Int},fK p q<0→¬fK q p<0
 |[],[],h=>by simp[fK]at h
 |[],_::_,_=>by simp[fK]
 |_::_,[],h=>by simp[fK]at h
 |a::p,b::q,h=>by
  have ih:=VB (p:=p) (q:=q);simp only[fK]at h ⊢;rcases Int.lt_trichotomy a b with h1|h1|h1
  ·rw[if_neg (by omega),if_pos h1];omega
  ·subst h1
   simp only[Int.lt_irrefl,if_false]at h ⊢;exact ih h
  ·rw[if_neg (by omega),if_pos h1]at h;omega
theorem VD:∀{p q r:List Int},fK p q<0→fK q r<0→fK p r<0
 |[],[],_,h,_=>by simp[fK]at h
 |_::_,[],_,h,_=>by simp[fK]at h
 |_,_::_,[],_,h=>by simp[fK]at h
 |[],_::_,_::_,_,_=>by simp[fK]
 |a::p,b::q,c::r,h,h'=>by
  have ih:=VD (p:=p) (q:=q) (r:=r);simp only[fK]at h h' ⊢;rcases Int.lt_trichotomy a b with h1|h1|h1
  ·rcases Int.lt_trichotomy b c with h2|h2|h2
   ·rw[if_pos (by omega)];omega
   ·rw[if_pos (by omega)];omega
   ·rw[if_neg (by omega),if_pos h2]at h';omega
  ·subst h1
   simp only[Int.lt_irrefl,if_false]at h;rcases Int.lt_trichotomy a c with h2|h2|h2
   ·rw[if_pos h2];omega
   ·subst h2
    simp only[Int.lt_irrefl,if_false]at h' ⊢;exact ih h h'
   ·rw[if_neg (by omega),if_pos h2]at h';omega
  ·rw[if_neg (by omega),if_pos h1]at h;omega
theorem agL{a b:Int×Int}{p q:List Int}(h:jh a b p q):¬jh b a q p:=by
 rw[wB]at h ⊢;unfold ug at h ⊢;have:=VB (p:=p) (q:=q);rcases h with h | ⟨h1,h2,h3⟩
 ·omega
 ·have:=this h3;omega
theorem agM{a b c:Int×Int}{p q r:List Int}(h:jh a b p q)(h':jh b c q r):jh a c p r:=by
 rw[wB]at h h' ⊢;unfold ug at h h' ⊢;have:=VD (p:=p) (q:=q) (r:=r);rcases h with h | ⟨h1,h2,h3⟩
 ·omega
 ·rcases h' with h' | ⟨h4,h5,h6⟩
  ·omega
  ·have:=this h3 h6
   omega
theorem VE{a:Int×Int}{p:List Int}:¬jh a a p p:=fun h=>agL h h
end Go.Proofs.YtmpikpodpgnjhaaGreat
namespace Go.Proofs.YtmpikpodpgnjhaaGreat
set_option linter.all false
open Go.Vm
attribute [local simp] mc me ma mb
noncomputable def xO(us:List Un)(ss:List Us)(g:Int):Int :=
 if 6<us.length then 10 else if us.length≠ss.length then 3 else if ¬zu us ss then 3 else if g<1∨1073741824<g then 1 else 0
theorem agN(us:List Un)(ss:List Us)(g:Int)(G:List aP):a8 F 166 [jy us,jg ss,i64 g] G=some (i64 (xO us ss g),G) :=
 bV rfl rfl (by
  generalize hE:xO us ss g=E;unfold xO at hE;simp +contextual (disch:=omega) [-getElem?_pos,wrap64,Tz];refine bK (fun h1=>?_) (fun h1=>gm (fun h2=>?_) (fun h2=>?_))
  ·rw[if_pos (by omega)]at hE
   exact hE
  ·simp[-List.length_eq_zero_iff,-Int.natCast_eq_zero]at h2
   rw[if_neg (by omega),if_pos (by omega)]at hE
   exact hE
  ·simp[-List.length_eq_zero_iff,-Int.natCast_eq_zero]at h2
   have hl:us.length=ss.length:=by omega
   rw[if_neg (by omega),if_neg (by omega)]at hE
   refine go_loop (fun i:Nat=>aeI (jg ss) g (jy us) us.length i G) (fun i=>i≤us.length∧∀j,j<i→eJ (nth us j) (nth ss j)) (fun i=>us.length-i) 0 rfl (by simp) ⟨by omega,by omega⟩ ?_
   rintro i ⟨hi,hv⟩;simp +contextual (disch:=omega) [-getElem?_pos,wrap64,Ty];refine bK (fun h3=>?_) (fun h3=>?_)
   ·have h3:i<us.length:=by omega
    by_cases h4:eJ (nth us i) (nth ss i)
    ·simp +contextual (disch:=omega) [-getElem?_pos,wrap64,bb (l:=us),bb (l:=ss),vb,h4]
     refine bL (i+1) (by simp) ⟨by omega,fun j hj=>?_⟩ (by omega)
     rcases Nat.lt_or_ge j i with h5|h5
     ·exact hv j h5
     ·rwa [show j=i by omega]
    ·rw[if_pos (fun h=>h4 (h i h3))]at hE
     simp +contextual (disch:=omega) [-getElem?_pos,wrap64,bb (l:=us),bb (l:=ss),vb,h4];exact hE
   ·obtain rfl:i=us.length:=by omega
    rw[if_neg (fun h=>h hv)]at hE;refine gm (fun h5=>?_) (fun h5=>?_)
    ·simp[-List.length_eq_zero_iff,-Int.natCast_eq_zero]at h5
     rw[if_pos (by omega)]at hE
     exact hE
    ·simp[-List.length_eq_zero_iff,-Int.natCast_eq_zero]at h5
     rw[if_neg (by omega)]at hE
     exact hE)
noncomputable def ru(u:Un)(s:Us)(g:Int):List Int:=([0,s.bZ]++eO u g).filter fun q=>decide (iY u s q)
theorem VF{u:Un}{s:Us}{g q:Int}:q∈ru u s g↔q∈oU u s g:=by
 rw[Bo];simp only[ru,List.mem_filter,decide_eq_true_eq,List.mem_append,List.mem_cons,List.not_mem_nil,or_false];constructor
 ·rintro⟨(h|h)|h,h2⟩
  ·exact⟨.inr (.inl h),h2⟩
  ·exact⟨.inr (.inr h),h2⟩
  ·exact⟨.inl h,h2⟩
 ·rintro⟨h|h|h,h2⟩
  ·exact⟨.inr h,h2⟩
  ·exact⟨.inl (.inl h),h2⟩
  ·exact⟨.inl (.inr h),h2⟩
theorem agO{u:Un}{s:Us}{g:Int}(h:fR u g=0):(ru u s g).length≤202:=by
 have h1:=L9 h;have:(ru u s g).length≤([0,s.bZ]++eO u g).length:=List.length_filter_le _ _;simp at this;omega
theorem agP{u:Un}{s:Us}(hv:eJ u s)(g:Int)(G:List aP):a8 F 187 [un u,us s,i64 g] G =
  some (if fR u g=0 then .tuple [.slice (some 0) 1 ((ru u s g).map fun n=>[i64 n]),i64 0] else .tuple [.slice (some 0) 1 [],i64 (fR u g)],G) :=
 bV rfl rfl (by
  by_cases he:fR u g=0
  ·have hlen:=L9 he
   have hf:mK u g=eO u g:=by simp[mK,he]
   have hc:ru u s g=(0::s.bZ::eO u g).filter fun q=>decide (iY u s q):=rfl;rw[if_pos he,hc];generalize hL:(0::s.bZ::eO u g)=L;have hLl:L.length=(eO u g).length+2:=by rw[←hL];simp
   have hLm:[i64 0]::[i64 s.bZ]::(eO u g).map (fun n=>[i64 n])=L.map fun n=>[i64 n]:=by rw[←hL];rfl
   simp (disch:=omega) [-getElem?_pos,wrap64,Lm,Bg,he,hf,hLm];refine go_loop (fun i:Nat=>ae2 (.slice (some 1039) 1 (((L.take i).filter fun q=>decide (iY u s q)).map fun n=>[i64 n])) (.slice (some 1024) 1 (L.map fun n=>[i64 n])) L.length i u.row s.row L.length ((L.take i).filter fun q=>decide (iY u s q)).length G)
    (fun i=>i≤L.length) (fun i=>L.length-i) 0 rfl (by simp[hLl];omega) (by omega) ?_
   intro i hi;have PG:((L.take i).filter fun q=>decide (iY u s q)).length≤i:=Nat.le_trans (List.length_filter_le _ _) (by simp;omega)
   simp (disch:=omega) [-getElem?_pos,wrap64,TS];refine bK (fun h1=>?_) (fun h1=>?_)
   ·have h1:i<L.length:=by omega
    have hM:=LP u s (nth L i) [];by_cases h3:iY u s (nth L i)
    ·have h4:decide (eJ u s∧jf u s (nth L i))=true:=decide_eq_true h3
     rw[h4]at hM;have h5:(L.take (i+1)).filter (fun q=>decide (iY u s q))=(L.take i).filter (fun q=>decide (iY u s q))++[nth L i]:=by
      rw[ji h1,List.filter_append];simp[h3]
     simp (disch:=omega) [-getElem?_pos,wrap64,dD h1,hM];exact bL (i+1) (by rw[h5];simp) (by omega) (by omega)
    ·have h4:decide (eJ u s∧jf u s (nth L i))=false:=decide_eq_false h3
     rw[h4]at hM;have h5:(L.take (i+1)).filter (fun q=>decide (iY u s q))=(L.take i).filter (fun q=>decide (iY u s q)):=by
      rw[ji h1,List.filter_append];simp[h3]
     simp (disch:=omega) [-getElem?_pos,wrap64,dD h1,hM];exact bL (i+1) (by rw[h5];simp) (by omega) (by omega)
   ·obtain rfl:i=L.length:=by omega
    rw[List.take_length]
  ·rw[if_neg he]
   have hf:mK u g=[]:=by simp[mK,he]
   simp (disch:=omega) [-getElem?_pos,wrap64,Lm,Bg,he,hf])
noncomputable abbrev G7(g:Int)(u:Un)(s:Us):List V:=[.slice none 1 ((ru u s g).map fun n=>[i64 n])]
noncomputable def xP(us:List Un)(g:Int):Int:=if zw us g then 0 else 10
theorem agS{us:List Un}{ss:List Us}(hl:us.length=ss.length)(hn:us.length≤1000)(hv:zu us ss)(g:Int)(G:List aP):a8 F 167 [jy us,jg ss,i64 g] G =
  some (.tuple [.slice (some 0) 1 (if xP us g=0 then List.zipWith (G7 g) us ss else []),i64 (xP us g)],G) :=
 bV rfl rfl (by
  generalize hE:xP us g=E;generalize hW:V.tuple [.slice (some 0) 1 (if E=0 then List.zipWith (G7 g) us ss else []),i64 E]=W
  unfold xP at hE;simp (disch:=omega) [-getElem?_pos,wrap64,TB];refine go_loop (fun i:Nat=>aeK (jg ss) g (.slice (some 1035) 1 (List.zipWith (G7 g) (us.take i) (ss.take i))) (jy us) us.length i i G)
   (fun i=>i≤us.length∧∀j,j<i→fR (nth us j) g=0) (fun i=>us.length-i) 0 rfl (by simp) ⟨by omega,by omega⟩ ?_
  rintro i ⟨hi,hf⟩;simp (disch:=omega) [-getElem?_pos,wrap64,TA];refine bK (fun h3=>?_) (fun h3=>?_)
  ·have h3:i<us.length:=by omega
   have fx:i<ss.length:=by omega
   have hC:=agP (hv i h3) g [];by_cases h4:fR (nth us i) g=0
   ·rw[if_pos h4]at hC
    simp (disch:=omega) [-getElem?_pos,wrap64,bb (l:=us),bb (l:=ss),hC];refine bL (i+1) ?_ ⟨by omega,fun j hj=>?_⟩ (by omega)
    ·rw[wz h3 fx];simp
    rcases Nat.lt_or_ge j i with h5|h5
    ·exact hf j h5
    ·rwa [show j=i by omega]
   ·rw[if_neg h4]at hC
    rw[if_neg (fun h=>h4 (h i h3))]at hE;subst hE;simp (disch:=omega) [-getElem?_pos,wrap64,bb (l:=us),bb (l:=ss),hC,h4];exact hW
  ·obtain rfl:i=us.length:=by omega
   rw[if_pos (show zw us g from hf)]at hE;subst hE;rw[List.take_length,List.take_of_length_le (by omega)]
   simp[←hW])
end Go.Proofs.YtmpikpodpgnjhaaGreat
namespace Go.Proofs.YtmpikpodpgnjhaaGreat
set_option linter.all false
open Go.Vm
def Vd:List Nat→List Nat→Prop
 |[],[]=>True
 |n::ns,d::a=>d<n∧Vd ns a
 |_,_=>False
def oW:List Nat→Nat
 |[]=>1
 |n::ns=>n*oW ns
def rk:List Nat→List Nat→Nat
 |_::ns,d::a=>d*oW ns+rk ns a
 |_,_=>0
def inc:List Nat→List Nat→Option (List Nat)
 |n::ns,d::a=>match inc ns a with
  |some b=>some (d::b)
  |none=>if d+1<n then some ((d+1)::List.replicate a.length 0) else none
 |_,_=>none
theorem Bp:∀{ns a:List Nat},Vd ns a→a.length=ns.length
 |[],[],_=>rfl
 |_::_,_::_,h=>by simp[Bp h.2]
 |[],_::_,h=>h.elim
 |_::_,[],h=>h.elim
theorem wC:∀{ns a:List Nat},Vd ns a→∀i,i<ns.length→nth a i<nth ns i
 |n::ns,d::a,h,i,hi=>by
  cases i with
  |zero=>exact h.1
  |succ i=>exact wC h.2 i (by simpa using hi)
theorem Bq:∀{ns a:List Nat},Vd ns a→rk ns a<oW ns
 |[],[],_=>by simp[rk,oW]
 |n::ns,d::a,h=>by
  have ih:=Bq h.2;have h1:=Nat.mul_le_mul_right (oW ns) (show d+1≤n from h.1);simp only[rk,oW];rw[Nat.succ_mul]at h1;omega
 |[],_::_,h=>h.elim
 |_::_,[],h=>h.elim
theorem VG:∀{ns a b:List Nat},Vd ns a→Vd ns b→rk ns a=rk ns b→a=b
 |[],[],[],_,_,_=>rfl
 |n::ns,d::a,e::b,ha,hb,h=>by
  have h1:=Bq ha.2;have h2:=Bq hb.2;simp only[rk]at h;have hde:d=e:=by
   rcases Nat.lt_trichotomy d e with h3|h3|h3
   ·have:=Nat.mul_le_mul_right (oW ns) (show d+1≤e from h3)
    rw[Nat.succ_mul]at this;omega
   ·exact h3
   ·have:=Nat.mul_le_mul_right (oW ns) (show e+1≤d from h3)
    rw[Nat.succ_mul]at this;omega
  subst hde;rw[VG ha.2 hb.2 (by omega)]
 |[],_::_,_,h,_,_=>h.elim
 |[],[],_::_,_,h,_=>h.elim
 |_::_,[],_,h,_,_=>h.elim
 |_::_,_::_,[],_,h,_=>h.elim
theorem Md:∀{ns:List Nat} {k:Nat},rk ns (List.replicate k 0)=0
 |[],k=>by cases k<;>rfl
 |_::ns,0=>rfl
 |_::ns,k+1=>by simp[List.replicate_succ,rk,Md]
theorem Me:∀{ns:List Nat},(∀n∈ns,0<n)→Vd ns (List.replicate ns.length 0)
 |[],_=>trivial
 |n::ns,h=>⟨h n (by simp),Me fun m hm=>h m (by simp[hm])⟩
theorem VH:∀{ns a:List Nat},Vd ns a→match inc ns a with
  |none=>rk ns a+1=oW ns
  |some b=>Vd ns b∧rk ns b=rk ns a+1
 |[],[],_=>by simp[inc,rk,oW]
 |n::ns,d::a,h=>by
  have ih:=VH h.2;have hl:=Bp h.2;unfold inc;cases hi:inc ns a with
  |some b =>
   rw[hi]at ih;simp only at ih ⊢;exact⟨⟨h.1,ih.1⟩,by simp only[rk];omega⟩
  |none =>
   rw[hi]at ih;simp only at ih ⊢;have hp:∀m∈ns,0<m:=fun m hm=>by
    obtain⟨i,hi,rfl⟩:=Bk hm;have:=wC h.2 i hi;omega
   by_cases hd:d+1<n
   ·simp only[hd,if_true]
    refine⟨⟨hd,by rw[hl];exact Me hp⟩,?_⟩
    simp only[rk,Md];rw[Nat.succ_mul];omega
   ·simp only[hd,if_false]
    have:n=d+1:=by have:=h.1;omega
    subst this;simp only[rk,oW];rw[Nat.succ_mul];omega
 |[],_::_,h=>h.elim
 |_::_,[],h=>h.elim
theorem Mf:∀{ns a:List Nat},Vd ns a→(∀j,j<ns.length→nth a j+1=nth ns j)→inc ns a=none
 |[],[],_,_=>rfl
 |n::ns,d::a,h,hm=>by
  have ih:=Mf h.2 fun j hj=>hm (j+1) (by simpa using hj)
  have h0:=hm 0 (by simp)
  simp only[inc,ih];have:¬d+1<n:=by simp[nth]at h0;omega
  simp[this]
 |[],_::_,h,_=>h.elim
 |_::_,[],h,_=>h.elim
theorem VI:∀{ns a:List Nat} {i:Nat},Vd ns a→i<ns.length→(∀j,i<j→j<ns.length→nth a j+1=nth ns j)→nth a i+1<nth ns i →
  inc ns a=some (a.take i++(nth a i+1)::List.replicate (ns.length-1-i) 0)
 |n::ns,d::a,0,h,_,hm,br=>by
  have ih:=Mf h.2 fun j hj=>hm (j+1) (by omega) (by simpa using hj)
  have hl:=Bp h.2;have:d+1<n:=by simpa [nth] using br
  simp only[inc,ih,this,if_true];simp[nth,hl]
 |n::ns,d::a,i+1,h,hi,hm,br=>by
  have py:i<ns.length:=by simpa using hi
  have ih:=VI h.2 py (fun j h1 h2=>hm (j+1) (by omega) (by simpa using h2)) br
  simp only[inc,ih];simp[nth];omega
 |[],[],_,_,hi,_,_=>by simp at hi
 |[],_::_,_,h,_,_,_=>h.elim
 |_::_,[],_,h,_,_,_=>h.elim
def dV(R:List (List Int))(a:List Nat):List Int:=List.zipWith (fun o k=>nth o k) R a
def DR:List (List Int)→List Int→Prop
 |[],[]=>True
 |o::R,q::F=>q∈o∧DR R F
 |_,_=>False
theorem Mg:∀{R:List (List Int)} {a:List Nat},Vd (R.map List.length) a→DR R (dV R a)
 |[],[],_=>trivial
 |o::R,d::a,h=>⟨pR h.1,Mg h.2⟩
 |[],_::_,h=>h.elim
 |_::_,[],h=>h.elim
theorem Mh:∀{R:List (List Int)} {F:List Int},DR R F→∃a,Vd (R.map List.length) a∧dV R a=F
 |[],[],_=>⟨[],trivial,rfl⟩
 |o::R,q::F,h=>by
  obtain⟨a,h1,h2⟩:=Mh h.2;obtain⟨d,h3,h4⟩:=Bk h.1;exact⟨d::a,⟨h3,h1⟩,by simp only[dV,List.zipWith_cons_cons]at h2 ⊢;rw[h2,h4]⟩
 |[],_::_,h=>h.elim
 |_::_,[],h=>h.elim
noncomputable def mi(us:List Un)(ss:List Us)(g:Int):List (List Int):=List.zipWith (fun u s=>ru u s g) us ss
theorem DS{g:Int}:∀{us:List Un} {ss:List Us} {F:List Int},us.length=ss.length→(DR (mi us ss g) F↔lp g us ss F)
 |[],[],[],_=>Iff.rfl
 |[],[],_::_,_=>Iff.rfl
 |[],_::_,_,h=>by simp at h
 |_::_,[],_,h=>by simp at h
 |_::_,_::_,[],_=>Iff.rfl
 |u::us,s::ss,q::F,h=>by
  have ih:=DS (g:=g) (us:=us) (ss:=ss) (F:=F) (by simpa using h)
  show(q∈ru u s g∧DR (mi us ss g) F)↔(q∈oU u s g∧lp g us ss F);rw[VF,ih]
theorem agU{u:Un}{s:Us}{g:Int}(hv:eJ u s):0<(ru u s g).length:=by
 have:s.bZ∈ru u s g:=by
  rw[VF,Bo];refine⟨.inr (.inr rfl),hv,?_⟩;obtain⟨hc,h1,h2⟩:=hv;unfold jf;split
  ·rename_i h;rw[h];intro h3;omega
  ·rename_i h
   rcases h2 with h2 | ⟨h2,h3⟩
   ·exact absurd h2 h
   ·exact⟨h2,fun h4=>h h4.1,h3⟩
 exact List.length_pos_of_mem this
def Kn(us:List Un)(ss:List Us)(R:List (List Int))(release:Int)(r:Nat):Option (List Int)→Prop
 |none=>∀b,Vd (R.map List.length) b→rk (R.map List.length) b<r→release<(dV R b).sum
 |some F=>(∃b,Vd (R.map List.length) b∧dV R b=F∧F.sum≤release) ∧
   ∀b,Vd (R.map List.length) b→rk (R.map List.length) b<r→(dV R b).sum≤release→¬jh (g6 us (dV R b),g7 ss (dV R b)) (g6 us F,g7 ss F) (dV R b) F
noncomputable def s7(us:List Un)(ss:List Us)(release:Int)(P:List Int):Option (List Int)→Option (List Int)
 |none=>if P.sum≤release then some P else none
 |some F=>if P.sum≤release then (if jh (g6 us P,g7 ss P) (g6 us F,g7 ss F) P F then some P else some F) else some F
theorem agV{us:List Un}{ss:List Us}{R:List (List Int)}{release:Int}{a:List Nat}(ha:Vd (R.map List.length) a){best:Option (List Int)}(h:Kn us ss R release (rk (R.map List.length) a) best) :
  Kn us ss R release (rk (R.map List.length) a+1) (s7 us ss release (dV R a) best):=by
 have split:∀b,Vd (R.map List.length) b→rk (R.map List.length) b<rk (R.map List.length) a+1→rk (R.map List.length) b<rk (R.map List.length) a∨b=a:=fun b hb br=>by
  rcases Nat.lt_or_ge (rk (R.map List.length) b) (rk (R.map List.length) a) with h1|h1
  ·exact .inl h1
  ·exact .inr (VG hb ha (by omega))
 cases best with
 |none =>
  unfold s7;by_cases hs:(dV R a).sum≤release
  ·simp only[hs,if_true]
   refine⟨⟨a,ha,rfl,hs⟩,fun b hb br jj=>?_⟩;rcases split b hb br with h1|rfl
   ·have:=h b hb h1;omega
   ·exact VE
  ·simp only[hs,if_false]
   intro b hb br;rcases split b hb br with h1|rfl
   ·exact h b hb h1
   ·omega
 |some F =>
  obtain⟨h1,h2⟩:=h;unfold s7;by_cases hs:(dV R a).sum≤release
  ·simp only[hs,if_true]
   by_cases hb:jh (g6 us (dV R a),g7 ss (dV R a)) (g6 us F,g7 ss F) (dV R a) F
   ·simp only[hb,if_true]
    refine⟨⟨a,ha,rfl,hs⟩,fun b mE br jj=>?_⟩;rcases split b mE br with h3|rfl
    ·exact fun h4=>h2 b mE h3 jj (agM h4 hb)
    ·exact VE
   ·simp only[hb,if_false]
    refine⟨h1,fun b mE br jj=>?_⟩;rcases split b mE br with h3|rfl
    ·exact h2 b mE h3 jj
    ·exact hb
  ·simp only[hs,if_false]
   refine⟨h1,fun b mE br jj=>?_⟩;rcases split b mE br with h3|rfl
   ·exact h2 b mE h3 jj
   ·omega
theorem VJ{us:List Un}{ss:List Us}{g release:Int}(hl:us.length=ss.length){best:Option (List Int)}(h:Kn us ss (mi us ss g) release (oW ((mi us ss g).map List.length)) best) :
  match best with
  |none=>∀F,lp g us ss F→release<F.sum
  |some F=>zA g us ss release F:=by
 cases best with
 |none =>
  intro F hF;obtain⟨b,hb,rfl⟩:=Mh ((DS hl).2 hF);exact h b hb (Bq hb)
 |some F =>
  obtain⟨⟨b,hb,e,hs⟩,h2⟩:=h;refine⟨?_,hs,fun E hE hEs=>?_⟩
  ·rw[←e];exact(DS hl).1 (Mg hb)
  ·obtain⟨c,hc,rfl⟩:=Mh ((DS hl).2 hE)
   exact h2 c hc (Bq hc) hEs
end Go.Proofs.YtmpikpodpgnjhaaGreat
