/- Parts of the proof, joined: Dsp1, Dsp2, Dsp3, Dsp4, Dsp5, Dsp6, Dsp7, Dsp8, Ord1, Ref1, Ref2. -/
import Derived.Test.YtcelmhaoipbdiaaGreatDa
namespace Go.Proofs.YtcelmhaoipbdiaaGreat
set_option linter.all false
open Go.Vm
attribute [local simp] ly lz kF lx
theorem m7{α:Type}[Inhabited α]{l:List α}{i:Nat}(h:i<l.length):l.drop i=nth l i::l.drop (i+1):=by
 rw[KM h];simp[nth,List.getD,h]
def gy:List Int→List Int→Int
 |[],[]=>0
 |[],_::_ => -1
 |_::_,[]=>1
 |a::p,b::q=>if a<b then -1 else if b<a then 1 else gy p q
theorem Ul(a:Int)(G:List aP):aX F 158 [i64 a] G=some (.bool false,G) :=
 bL rfl rfl (by simp[wrap64,ac5])
theorem Um(a b:Int)(G:List aP):aX F 119 [i64 a,i64 b] G=some (i64 (if a<b then -1 else if b<a then 1 else 0),G) :=
 bL rfl rfl (by
  by_cases h1:a<b
  ·simp[wrap64,M0,Ul,h1]
  ·by_cases h2:b<a
   ·simp[wrap64,M0,Ul,h1,h2]
   ·simp[wrap64,M0,Ul,h1,h2])
theorem aeO(p q:List Int)(hp:p.length≤4294967296)(G:List aP):aX F 76 [ints p,ints q] G=some (i64 (gy p q),G) :=
 bL rfl rfl (by
  generalize hW:gy p q=W;simp (disch:=omega) [-getElem?_pos,wrap64,abD];refine go_loop (fun i:Nat=>apd (ints p) (ints q) (ints p) p.length i G) (fun i=>i≤p.length∧i≤q.length∧gy (p.drop i) (q.drop i)=W) (fun i=>p.length-i) 0 rfl (by simp) ⟨by omega,by omega,by simpa using hW⟩ ?_
  rintro i ⟨h1,h2,h3⟩;simp (disch:=omega) [-getElem?_pos,wrap64,abC];refine bB (fun h4=>?_) (fun h4=>?_)
  ·have h4:i<p.length:=by omega
   rw[m7 h4]at h3;by_cases h5:i<q.length
   ·rw[m7 h5,gy]at h3
    have h6:¬q.length≤i:=by omega
    by_cases h7:nth p i<nth q i
    ·rw[aK h7]at h3
     simp (disch:=omega) [-getElem?_pos,wrap64,dA,Um,h6,h7];exact h3
    ·rw[av h7]at h3
     by_cases h8:nth q i<nth p i
     ·rw[aK h8]at h3
      simp (disch:=omega) [-getElem?_pos,wrap64,dA,Um,h6,h7,h8];exact h3
     ·rw[av h8]at h3
      simp (disch:=omega) [-getElem?_pos,wrap64,dA,Um,h6,h7,h8];exact bu (i+1) (by simp) ⟨by omega,by omega,h3⟩ (by omega)
   ·obtain rfl:i=q.length:=by omega
    rw[rJ,gy]at h3;simp (disch:=omega) [-getElem?_pos,wrap64,dA];exact h3
  ·obtain rfl:i=p.length:=by omega
   rw[rJ]at h3;refine bB (fun h5=>?_) (fun h5=>?_)
   ·have h6:p.length<q.length:=by omega
    rw[m7 h6,gy]at h3;exact h3
   ·obtain h6:q.drop p.length=[]:=WA.2 (by omega)
    rw[h6,gy]at h3;exact h3)
abbrev No(a:Int×Int):V:=.agg [i64 a.1,i64 a.2]
def kV(a b:Int×Int)(p q:List Int):Prop:=if a.1≠b.1 then b.1<a.1 else if a.2≠b.2 then a.2<b.2 else gy p q<0
instance {a b:Int×Int} {p q:List Int}:Decidable (kV a b p q):=by unfold kV;infer_instance
theorem as1(a b:Int×Int)(p q:List Int)(hp:p.length≤4294967296)(G:List aP):aX F 217 [No a,No b,ints p,ints q] G=some (.bool (decide (kV a b p q)),G) :=
 bL rfl rfl (by
  generalize hW:decide (kV a b p q)=W;simp only[kV]at hW;obtain⟨a1,a2⟩:=a;obtain⟨b1,b2⟩:=b;simp only at hW;by_cases h1:a1=b1
  ·by_cases h2:a2=b2
   ·simp[wrap64,Nc,aeO p q hp,h1,h2]
    simpa [h1,h2] using hW
   ·simp[wrap64,Nc,h1,h2]
    simpa [h1,h2] using hW
  ·simp[wrap64,Nc,h1]
   simpa [h1] using hW)
theorem as2(p q:List Int)(hp:p.length≤4294967296)(G:List aP):aX F 198 [ints p,ints q] G=some (.bool (decide (gy p q<0)),G) :=
 bL rfl rfl (by
  generalize hW:gy p q=W;simp (disch:=omega) [-getElem?_pos,wrap64,adS];refine go_loop (fun i:Nat=>arW (ints p) (ints q) p.length i G) (fun i=>i≤p.length∧i≤q.length∧gy (p.drop i) (q.drop i)=W) (fun i=>p.length-i) 0 rfl (by simp) ⟨by omega,by omega,by simpa using hW⟩ ?_
  rintro i ⟨h1,h2,h3⟩;simp (disch:=omega) [-getElem?_pos,wrap64,adR];refine bB (fun h4=>?_) (fun h4=>?_)
  ·have h4:i<p.length:=by omega
   rw[m7 h4]at h3;by_cases h5:i<q.length
   ·rw[m7 h5,gy]at h3
    have h6:¬q.length≤i:=by omega
    by_cases h7:nth p i<nth q i
    ·rw[aK h7]at h3
     have h9:¬nth p i=nth q i:=by omega
     subst h3;simp (disch:=omega) [-getElem?_pos,wrap64,dA,h6,h7,h9,h5]
    ·rw[av h7]at h3
     by_cases h8:nth q i<nth p i
     ·rw[aK h8]at h3
      have h9:¬nth p i=nth q i:=by omega
      subst h3;simp (disch:=omega) [-getElem?_pos,wrap64,dA,h6,h7,h9,h5]
     ·rw[av h8]at h3
      have h9:nth p i=nth q i:=by omega
      simp (disch:=omega) [-getElem?_pos,wrap64,dA,h6,h9,h5];exact bu (i+1) (by simp) ⟨by omega,by omega,h3⟩ (by omega)
   ·obtain rfl:i=q.length:=by omega
    rw[rJ,gy]at h3;subst h3;simp (disch:=omega) [-getElem?_pos,wrap64,dA]
  ·obtain rfl:i=p.length:=by omega
   rw[rJ]at h3;by_cases h6:p.length<q.length
   ·rw[m7 h6,gy]at h3
    subst h3;simp[h6]
   ·have h7:q.drop p.length=[]:=WA.2 (by omega)
    rw[h7,gy]at h3;subst h3;simp;omega)
theorem aeP(a b:Int×Int)(p q:List Int)(hp:p.length≤4294967296)(G:List aP):aX F 181 [No a,No b,ints p,ints q] G=some (.bool (decide (kV a b p q)),G) :=
 bL rfl rfl (by
  generalize hW:decide (kV a b p q)=W;simp only[kV]at hW;obtain⟨a1,a2⟩:=a;obtain⟨b1,b2⟩:=b;simp only at hW;by_cases h1:a1=b1
  ·by_cases h2:a2=b2
   ·simp[wrap64,M8,as2 p q hp,h1,h2]
    simpa [h1,h2] using hW
   ·simp[wrap64,M8,h1,h2]
    simpa [h1,h2] using hW
  ·simp[wrap64,M8,h1]
   simpa [h1] using hW)
def kJ(u:Un)(s:Us)(q:Int):Prop:=fB u s∧kU u s q
noncomputable instance {u:Un} {s:Us} {q:Int}:Decidable (kJ u s q):=by unfold kJ;infer_instance
def ji(s:Us)(q:Int):Int:=if 0<q∧s.cu=0 then 1 else 0
noncomputable def AM:List Un→List Us→List Int→Int×Int×Int→Option (Int×Int×Int)
 |u::us,s::ss,f::fs,a=>if kJ u s f then AM us ss fs (a.1+f,a.2.1+pow u f,a.2.2+ji s f) else none
 |_,_,_,a=>some a
noncomputable def D4(us:List Un)(ss:List Us)(fs:List Int):Option (Int×Int×Int):=if us.length=ss.length∧us.length=fs.length then AM us ss fs (0,0,0) else none
def Gf:Option (Int×Int×Int)→V
 |some (a,b,c)=>.tuple [i64 a,i64 b,i64 c,.bool true]
 |none=>.tuple [i64 0,i64 0,i64 0,.bool false]
theorem Np{u:Un}{s:Us}{q:Int}(h:kJ u s q):0≤q∧q≤1073741824:=by
 obtain⟨⟨hc,_⟩,h2⟩:=h;have hu:=rf hc;have:=hu.least;have:=hu.T6;unfold kU at h2;split at h2
 ·omega
 ·have a:=h2.2.2.1
  have b:=h2.2.2.2.1;omega
theorem JF{u:Un}{q:Int}:0≤pow u q∧pow u q≤1073741824:=by
 unfold pow;split
 ·rename_i h
  have hu:=rf h.1;have hp:=hu.cv.pos;have a:=F9 hu.cv q;have b:=hu.top;have c:=(hu.cv.y0 0 (by omega)).1
  omega
 ·omega
theorem Nq{s:Us}{q:Int}:0≤ji s q∧ji s q≤1:=by unfold ji;split<;>omega
theorem aeQ(us:List Un)(ss:List Us)(fs:List Int)(hn:us.length≤1000)(G:List aP):aX F 150 [lG us,jJ ss,ints fs] G=some (Gf (D4 us ss fs),G) :=
 bL rfl rfl (by
  generalize hW:Gf (D4 us ss fs)=W;unfold D4 at hW;by_cases h1:us.length=ss.length
  ·by_cases h2:us.length=fs.length
   ·rw[aK ⟨h1,h2⟩]at hW
    simp +contextual (disch:=omega) [-getElem?_pos,wrap64,M5,← h1,← h2];refine go_loop (fun x:Nat×Int×Int×Int=>aqN (jJ ss) (ints fs) x.2.1 x.2.2.1 x.2.2.2 (lG us) us.length x.1 G)
     (fun x=>x.1≤us.length∧Gf (AM (us.drop x.1) (ss.drop x.1) (fs.drop x.1) (x.2.1,x.2.2.1,x.2.2.2))=W∧(0≤x.2.1∧x.2.1≤1073741824*(x.1:Int))∧(0≤x.2.2.1∧x.2.2.1≤1073741824*(x.1:Int))∧0≤x.2.2.2∧x.2.2.2≤x.1) (fun x=>us.length-x.1) (0,0,0,0) rfl (by simp) (by simpa using hW) ?_
    rintro⟨i,a,b,c⟩ ⟨hi,hq,ha,hb,hc⟩;simp only at hi hq ha hb hc;simp +contextual (disch:=omega) [-getElem?_pos,wrap64,acU];refine bB (fun h4=>?_) (fun h4=>?_)
    ·have h4:i<us.length:=by omega
     have h5:i<ss.length:=by omega
     have h6:i<fs.length:=by omega
     rw[m7 h4,m7 h5,m7 h6,AM]at hq;by_cases h7:kJ (nth us i) (nth ss i) (nth fs i)
     ·rw[aK h7]at hq
      have r1:=Np h7;have r2:=JF (u:=nth us i) (q:=nth fs i);have r3:=Nq (s:=nth ss i) (q:=nth fs i);have h8:decide (fB (nth us i) (nth ss i)∧kU (nth us i) (nth ss i) (nth fs i))=true:=dD h7;simp only at hq;have Uo:i+1≤us.length∧Gf (AM (us.drop (i+1)) (ss.drop (i+1)) (fs.drop (i+1)) (a+nth fs i,b+pow (nth us i) (nth fs i),c+ji (nth ss i) (nth fs i)))=W ∧
        (0≤a+nth fs i∧a+nth fs i≤1073741824*((i+1:Nat):Int))∧(0≤b+pow (nth us i) (nth fs i)∧b+pow (nth us i) (nth fs i)≤1073741824*((i+1:Nat):Int))∧0≤c+ji (nth ss i) (nth fs i)∧c+ji (nth ss i) (nth fs i)≤(i+1:Nat) :=
       ⟨by omega,hq,by omega,by omega,by omega⟩
      have hN:=Ub (nth us i) (nth ss i) (nth fs i) [];have e:tX (nth us i) (nth ss i) (nth fs i)=0:=by
       obtain⟨⟨q1,q2⟩,q3⟩:=h7;simp[tX,q1,q3,show fB (nth us i) (nth ss i) from⟨q1,q2⟩]
      simp only[e,if_true]at hN;by_cases h9:0<nth fs i
      ·by_cases gf:(nth ss i).cu=0
       ·have kR:ji (nth ss i) (nth fs i)=1:=by simp[ji,h9,gf]
        simp +contextual (disch:=omega) [-getElem?_pos,wrap64,aY (l:=us),aY (l:=ss),dA,hN,Ua,h9];simp +contextual (disch:=omega) [-getElem?_pos,wrap64,gf];exact bu (i+1,a+nth fs i,b+pow (nth us i) (nth fs i),c+ji (nth ss i) (nth fs i)) (by simp[kR]) Uo (by simp;omega)
       ·have kR:ji (nth ss i) (nth fs i)=0:=by simp[ji,gf]
        simp +contextual (disch:=omega) [-getElem?_pos,wrap64,aY (l:=us),aY (l:=ss),dA,hN,Ua,h9];simp +contextual (disch:=omega) [-getElem?_pos,wrap64,gf];exact bu (i+1,a+nth fs i,b+pow (nth us i) (nth fs i),c+ji (nth ss i) (nth fs i)) (by simp[kR]) Uo (by simp;omega)
      ·have kR:ji (nth ss i) (nth fs i)=0:=by simp[ji,h9]
       simp +contextual (disch:=omega) [-getElem?_pos,wrap64,aY (l:=us),aY (l:=ss),dA,hN,Ua,h9];exact bu (i+1,a+nth fs i,b+pow (nth us i) (nth fs i),c+ji (nth ss i) (nth fs i)) (by simp[kR]) Uo (by simp;omega)
     ·rw[av h7]at hq
      have hN:=Ub (nth us i) (nth ss i) (nth fs i) [];have e:¬tX (nth us i) (nth ss i) (nth fs i)=0:=fun e=>by
       unfold tX at e;split at e
       ·contradiction
       ·split at e
        ·cases e
        ·split at e
         ·cases e
         ·rename_i a1 a2 a3
          exact h7 ⟨iu a2,iu a3⟩
      simp only[e,if_false]at hN;simp +contextual (disch:=omega) [-getElem?_pos,wrap64,aY (l:=us),aY (l:=ss),dA,hN,e];exact hq
    ·obtain rfl:i=us.length:=by omega
     rw[rJ,AM]at hq
     ·exact hq
     ·intro u l8 s ss' f fs' e;cases e
   ·rw[av (fun h=>h2 h.2)]at hW
    have h3:¬ss.length=fs.length:=by omega
    simp +contextual (disch:=omega) [-getElem?_pos,wrap64,M5,h1];refine ic (fun h=>?_) (fun h=>?_)
    ·exact hW
    ·simp[-List.length_eq_zero_iff,-Int.natCast_eq_zero]at h
     omega
  ·rw[av (fun h=>h1 h.1)]at hW
   simp +contextual (disch:=omega) [-getElem?_pos,wrap64,M5];refine ic (fun h=>?_) (fun h=>?_)
   ·exact hW
   ·simp[-List.length_eq_zero_iff,-Int.natCast_eq_zero]at h
    omega)
noncomputable def sn(u:Un)(s:Us)(g:Int):List Int:=(dedup (oL (fJ u g++[0,s.cu]))).filter fun q=>decide (kJ u s q)
noncomputable abbrev Nr(u:Un)(s:Us)(q:Int):List V:=[i64 q,i64 (pow u q),i64 (ji s q)]
theorem jr{α:Type}[Inhabited α]{l:List α}{i:Nat}(h:i<l.length):l.take (i+1)=l.take i++[nth l i]:=by
 rw[WQ,aY h];rfl
theorem so{α:Type}[Inhabited α]{l m:List α}{i:Nat}(h:i<l.length):nth (l++m) i=nth l i:=by
 simp[nth,qB,h]
theorem aeR{u:Un}{s:Us}{L Z:List Int}{G:List aP}{K:cH}(hL:L.length≤4294967296)
  (hK:∀z,K (.exit 0) ⟨[(3,.bj 3 0),(4,.bj 4 0),(10,.slice (some 1061) 3 ((L.filter fun q=>decide (kJ u s q)).map (Nr u s))),(30,.bR 20026 1 L.length),(31,i64 L.length),(32,i64 L.length),(33,z)],[(3,u.row),(4,s.row),(20026,cP (L++Z))],[(1061,(L.filter fun q=>decide (kJ u s q)).length)],G⟩) :
  go (aX F) aej ⟨[(3,.bj 3 0),(4,.bj 4 0),(10,.bU),(30,.bR 20026 1 L.length),(31,i64 L.length),(32,i64 0)],[(3,u.row),(4,s.row),(20026,cP (L++Z))],[],G⟩ K:=by
 refine go_loop (fun i:Nat=>ass (.slice (some 1061) 3 (((L.take i).filter fun q=>decide (kJ u s q)).map (Nr u s))) L.length L.length i u.row s.row (cP (L++Z)) ((L.take i).filter fun q=>decide (kJ u s q)).length G) (fun i=>i≤L.length) (fun i=>L.length-i) 0 rfl (by simp) (by omega) ?_
 intro i hi;have hlen:((L.take i).filter fun q=>decide (kJ u s q)).length≤i:=kL (EK _ _) (by simp;omega)
 simp (disch:=omega) [wrap64,aei];refine bB (fun h1=>?_) (fun h1=>?_)
 ·have h1:i<L.length:=by omega
  have h2:i<(L++Z).length:=by simp;omega
  have hM:=asR u s (nth L i) [];by_cases h3:kJ u s (nth L i)
  ·have h4:decide (fB u s∧kU u s (nth L i))=true:=dD h3
   rw[h4]at hM;have h5:(L.take (i+1)).filter (fun q=>decide (kJ u s q))=(L.take i).filter (fun q=>decide (kJ u s q))++[nth L i]:=by
    rw[jr h1,CN];simp[h3]
   by_cases h6:0<nth L i
   ·by_cases h7:s.cu=0
    ·have h8:ji s (nth L i)=1:=by simp[ji,h6,h7]
     simp (disch:=omega) [wrap64,lA h2,so h1,hM,JA,h6];simp (disch:=omega) [wrap64,h7];exact bu (i+1) (by rw[h5];simp[h8]) (by omega) (by omega)
    ·have h8:ji s (nth L i)=0:=by simp[ji,h7]
     simp (disch:=omega) [wrap64,lA h2,so h1,hM,JA,h6];simp (disch:=omega) [wrap64,h7];exact bu (i+1) (by rw[h5];simp[h8]) (by omega) (by omega)
   ·have h8:ji s (nth L i)=0:=by simp[ji,h6]
    simp (disch:=omega) [wrap64,lA h2,so h1,hM,JA,h6];exact bu (i+1) (by rw[h5];simp[h8]) (by omega) (by omega)
  ·have h4:decide (fB u s∧kU u s (nth L i))=false:=decide_eq_false h3
   rw[h4]at hM;have h5:(L.take (i+1)).filter (fun q=>decide (kJ u s q))=(L.take i).filter (fun q=>decide (kJ u s q)):=by
    rw[jr h1,CN];simp[h3]
   simp (disch:=omega) [wrap64,lA h2,so h1,hM];exact bu (i+1) (by rw[h5];simp) (by omega) (by omega)
 ·obtain rfl:i=L.length:=by omega
  rw[pt];exact hK _
theorem as3{u:Un}{s:Us}(hv:fB u s){g:Int}(hg:1≤g∧g≤1073741824)(G:List aP):aX F 223 [un u,us s,i64 g] G =
  some (if ij u g=0 then .tuple [.slice (some 0) 3 ((sn u s g).map (Nr u s)),.bool true] else .tuple [.slice (some 0) 3 [],.bool false],G) :=
 bL rfl rfl (by
  by_cases he:ij u g=0
  ·have hlen:(fJ u g).length≤200:=by
    unfold ij at he;split at he
    ·contradiction
    ·split at he
     ·cases he
     ·split at he
      ·cases he
      ·omega
   have hf:pc u g=fJ u g:=by simp[pc,he]
   have hd:=FQ (oL (fJ u g++[0,s.cu]));have hs:=(B2 (fJ u g++[0,s.cu])).length_eq;simp at hs;have hm:vF 1 (oL (fJ u g++[0,s.cu]))=dedup (oL (fJ u g++[0,s.cu]))++List.replicate ((oL (fJ u g++[0,s.cu])).length-(dedup (oL (fJ u g++[0,s.cu]))).length) 0:=rfl;have B1:∀l,vF 0 l=oL l:=fun _=>rfl;have hc:(sn u s g)=(dedup (oL (fJ u g++[0,s.cu]))).filter fun q=>decide (kJ u s q):=rfl;rw[aK he,hc];have ha:∀l:List Int,cP l++[i64 0,i64 s.cu]=cP (l++[0,s.cu]):=fun l=>by simp[cP]
   have hz:[i64 0,i64 s.cu]=cP [0,s.cu]:=rfl;have qL:(fJ u g).length+2=(fJ u g++[0,s.cu]).length:=by simp
   have Dx:(oL (fJ u g++[0,s.cu])).length=(fJ u g++[0,s.cu]).length:=(B2 _).length_eq;by_cases hn:fJ u g=[]
   ·rw[hn]at hm hd hs hf Dx ⊢
    simp only[EM]at hm hd hs Dx ⊢;have e1:kC 20026 0 (.tuple [own [],i64 0])=some (.tuple [.ea 1,i64 0],none):=rfl;have h2:2=(oL [0,s.cu]).length:=by rw[Dx];rfl
    simp (disch:=omega) [wrap64,Nd,Ug,he,hf,e1,hz,Mt (zs:=[0,s.cu]) (n:=2) rfl (by omega),B1,Mt h2 (by omega),hm]
    refine aeR (u:=u) (s:=s) (L:=dedup (oL [0,s.cu])) (by omega) fun z=>?_
    simp (disch:=omega) [wrap64,wrap64]
   ·have e1:=al8 (id:=20026) (t:=0) (e:=0) hn
    rw[←qL]at Dx;simp (disch:=omega) [wrap64,Nd,Ug,he,hf,e1,ha,Mt qL (by omega),B1,Mt Dx.symm (by omega),hm]
    refine aeR (u:=u) (s:=s) (L:=dedup (oL (fJ u g++[0,s.cu]))) (by omega) fun z=>?_
    simp (disch:=omega) [wrap64,wrap64]
  ·rw[av he]
   have hf:pc u g=[]:=by simp[pc,he]
   have e1:kC 20026 0 (.tuple [own [],i64 (ij u g)])=some (.tuple [.ea 1,i64 (ij u g)],none):=rfl;simp (disch:=omega) [wrap64,Nd,Ug,he,hf,e1])
def D5(us:List Un)(ss:List Us):Prop:=∀i,i<us.length→fB (nth us i) (nth ss i)
noncomputable instance {us:List Un} {ss:List Us}:Decidable (D5 us ss):=Classical.propDecidable _
def D6(us:List Un)(g:Int):Prop:=∀i,i<us.length→ij (nth us i) g=0
noncomputable instance {us:List Un} {g:Int}:Decidable (D6 us g):=Classical.propDecidable _
noncomputable def sr(us:List Un)(ss:List Us)(g release:Int):Int :=
 if 6<us.length then 10 else if us.length≠ss.length then 3 else if ¬D5 us ss then 3
 else if g<1∨1073741824<g∨release<0∨1073741824<release then 1 else if 200*g<release then 10 else if ¬D6 us g then 10 else 0
noncomputable abbrev JG(g:Int)(u:Un)(s:Us):List V:=[.slice none 3 ((sn u s g).map (Nr u s))]
theorem AN{α β γ:Type}[Inhabited α][Inhabited β]{f:α→β→γ}{a:List α}{b:List β}{i:Nat}(h1:i<a.length)(h2:i<b.length) :
  List.zipWith f (a.take (i+1)) (b.take (i+1))=List.zipWith f (a.take i) (b.take i)++[f (nth a i) (nth b i)]:=by
 rw[jr h1,jr h2,List.zipWith_append (by simp;omega)]
 rfl
theorem as4(us:List Un)(ss:List Us)(g release:Int)(G:List aP):aX F 215 [lG us,jJ ss,i64 g,i64 release] G =
  some (.tuple [.slice (some 0) 1 (if sr us ss g release=0 then List.zipWith (JG g) us ss else []),i64 (sr us ss g release)],G) :=
 bL rfl rfl (by
  generalize hE:sr us ss g release=E;generalize hW:V.tuple [.slice (some 0) 1 (if E=0 then List.zipWith (JG g) us ss else []),i64 E]=W
  unfold sr at hE;simp +contextual (disch:=omega) [-getElem?_pos,wrap64,ad8];refine bB (fun h1=>?_) (fun h1=>ic (fun h2=>?_) (fun h2=>?_))
  ·rw[aK (by omega)]at hE
   subst hE;exact hW
  ·simp[-List.length_eq_zero_iff,-Int.natCast_eq_zero]at h2
   rw[av (by omega),aK (by omega)]at hE
   subst hE;exact hW
  ·simp[-List.length_eq_zero_iff,-Int.natCast_eq_zero]at h2
   have hl:us.length=ss.length:=by omega
   rw[av (by omega),av (by omega)]at hE
   refine go_loop (fun i:Nat=>asa (lG us) (jJ ss) g release (lG us) us.length i G) (fun i=>i≤us.length∧∀j,j<i→fB (nth us j) (nth ss j)) (fun i=>us.length-i) 0 rfl (by simp) ⟨by omega,by omega⟩ ?_
   rintro i ⟨hi,hv⟩;simp +contextual (disch:=omega) [-getElem?_pos,wrap64,ad6];refine bB (fun h3=>?_) (fun h3=>?_)
   ·have h3:i<us.length:=by omega
    by_cases h4:fB (nth us i) (nth ss i)
    ·simp +contextual (disch:=omega) [-getElem?_pos,wrap64,aY (l:=us),aY (l:=ss),Ca,h4]
     refine bu (i+1) (by simp) ⟨by omega,fun j hj=>?_⟩ (by omega)
     rcases cM j i with h5|h5
     ·exact hv j h5
     ·rwa [show j=i by omega]
    ·rw[aK (fun h=>h4 (h i h3))]at hE
     subst hE;simp +contextual (disch:=omega) [-getElem?_pos,wrap64,aY (l:=us),aY (l:=ss),Ca,h4];exact hW
   ·obtain rfl:i=us.length:=by omega
    rw[av (fun h=>h hv)]at hE;by_cases h5:g<1∨1073741824<g
    ·rw[aK (by omega)]at hE
     subst hE;have h6:(decide (g<1) || decide (1073741824<g))=true:=by simpa using h5
     simp +contextual (disch:=omega) [-getElem?_pos,wrap64,dM,h6];exact hW
    ·have h6:(decide (g<1) || decide (1073741824<g))=false:=by simpa using h5
     by_cases h7:release<0∨1073741824<release
     ·rw[aK (by omega)]at hE
      subst hE;have h8:(!decide (0≤release) || !decide (release≤1073741824))=true:=by simp;omega
      simp +contextual (disch:=omega) [-getElem?_pos,wrap64,dM,h6,h8];exact hW
     ·rw[av (by omega)]at hE
      have h8:(!decide (0≤release) || !decide (release≤1073741824))=false:=by simp;omega
      simp +contextual (disch:=omega) [-getElem?_pos,wrap64,dM,h6,h8];refine bB (fun h9=>?_) (fun h9=>?_)
      ·rw[aK h9]at hE
       subst hE;exact hW
      ·rw[av h9]at hE
       refine go_loop (fun i:Nat=>asd (jJ ss) g (.slice (some 1079) 1 (List.zipWith (JG g) (us.take i) (ss.take i))) (lG us) us.length i i G)
        (fun i=>i≤us.length∧∀j,j<i→ij (nth us j) g=0) (fun i=>us.length-i) 0 rfl (by simp) ⟨by omega,by omega⟩ ?_
       rintro i ⟨hi,hf⟩;simp +contextual (disch:=omega) [-getElem?_pos,wrap64,ad7];refine bB (fun h3=>?_) (fun h3=>?_)
       ·have h3:i<us.length:=by omega
        have gf:i<ss.length:=by omega
        have hC:=as3 (hv i h3) (g:=g) (by omega) []
        by_cases h4:ij (nth us i) g=0
        ·rw[aK h4]at hC
         simp +contextual (disch:=omega) [-getElem?_pos,wrap64,aY (l:=us),aY (l:=ss),hC];refine bu (i+1) ?_ ⟨by omega,fun j hj=>?_⟩ (by omega)
         ·rw[AN h3 gf];simp
         rcases cM j i with h5|h5
         ·exact hf j h5
         ·rwa [show j=i by omega]
        ·rw[av h4]at hC
         rw[aK (fun h=>h4 (h i h3))]at hE;subst hE;simp +contextual (disch:=omega) [-getElem?_pos,wrap64,aY (l:=us),aY (l:=ss),hC];exact hW
       ·obtain rfl:i=us.length:=by omega
        rw[av (fun h=>h hf)]at hE;subst hE;rw[pt,lZ (by omega)]
        simp[←hW,hl])
structure Ch where
 cu:Int
 kl:Int
 km:Int
 deriving Inhabited
abbrev Ch.row(c:Ch):List V:=[i64 c.cu,i64 c.kl,i64 c.km]
abbrev Up(l:List Ch):List V:=[.slice none 3 (l.map Ch.row)]
abbrev Part:=Option (Int×Int×Int)
def jX:Part→List V
 |none=>[.bool false,i64 0,i64 0,i64 0]
 |some (p,s,f)=>[.bool true,i64 p,i64 s,i64 f]
@[simp] theorem aC6{p:Part}{d:Nat}:((jX p).all fun v => !v.cI d)=true:=by
 cases p with
 |none=>rfl
 |some q=>rfl
abbrev nx(p:Part):V:=.agg (jX p)
def df(rest:Int→Part)(left:Int)(c:Ch)(out:Part):Part:=match rest (left-c.cu) with
 |none=>out
 |some (p,s,_)=>match out with
  |none=>some (p+c.kl,s+c.km,c.cu)
  |some (q,t,f)=>if kV (p+c.kl,s+c.km) (q,t) [] [] then some (p+c.kl,s+c.km,c.cu) else some (q,t,f)
def rh(rest:Int→Part)(left:Int):List Ch→Part→Part
 |[],out=>out
 |c::cs,out=>if left<c.cu then out else rh rest left cs (df rest left c out)
def kn:List (List Ch)→Int→Part
 |[],_=>some (0,0,0)
 |l::ls,left=>rh (kn ls) left l none
def nR:List (List Ch)→Int→Option (List Int)
 |[],_=>some []
 |l::ls,left=>match kn (l::ls) left with
  |none=>none
  |some (_,_,f)=>(nR ls (left-f)).map (f :: ·)
abbrev Cf:=List ((Int×Int)×Part)
def tn(m:Cf):List (V×V):=m.map fun e=>(.agg [i64 e.1.1,i64 e.1.2],nx e.2)
def yS(LL:List (List Ch))(m:Cf):Prop:=∀e∈m,∃i:Nat,e.1.1=i∧e.2=kn (LL.drop i) e.1.2
def gl(n:Nat)(LL:List (List Ch))(m:Cf):List aP:=[.cells [.slice none 1 (LL.map Up)],.map (tn m),.cells [.map 1],.cells [.fn n [.bH 0 0,.bH 2 0,.bH 3 0]]]
theorem Uq{LL:List (List Ch)}{i:Nat}{left:Int}:∀{m:Cf} {k:Nat},yS LL m →
  nJ true [0,0] (.agg [i64 i,i64 left]) (tn m) k=some none∨∃j,nJ true [0,0] (.agg [i64 i,i64 left]) (tn m) k=some (some (k+j,nx (kn (LL.drop i) left)))∧j<m.length
 |[],k,_=>.inl rfl
 |e::m,k,h=>by
  obtain⟨⟨a,b⟩,p⟩:=e;obtain⟨i',h1,h2⟩:=h ((a,b),p) (by simp)
  simp only at h1 h2;have h3:∀x∈m,∃i:Nat,x.1.1=i∧x.2=kn (LL.drop i) x.1.2:=fun x hx=>h x (by simp[hx])
  have step:nJ true [0,0] (.agg [i64 i,i64 left]) (tn (((a,b),p)::m)) k=if (i:Int)=a∧left=b then some (some (k,nx p)) else nJ true [0,0] (.agg [i64 i,i64 left]) (tn m) (k+1):=by
   show(match V.nI true [0,0] (.agg [i64 i,i64 left]) (.agg [i64 a,i64 b]) with|some true=>some (some (k,nx p))|some false=>nJ true [0,0] (.agg [i64 i,i64 left]) (tn m) (k+1)|none=>none)=_
   have:V.nI true [0,0] (.agg [i64 i,i64 left]) (.agg [i64 a,i64 b])=some (decide ((i:Int)=a∧left=b)):=by
    simp[V.nI,eJ,kO]<;>(by_cases q1:(i:Int)=a<;>by_cases q2:left=b<;>simp[q1,q2])
   rw[this];by_cases q:(i:Int)=a∧left=b
   ·simp[q]
   ·rw[decide_eq_false q,av q]
  rw[step];split
  ·rename_i q
   refine .inr ⟨0,?_,by simp⟩
   have:i=i':=by omega
   subst this;rw[h2,← q.2];rfl
  ·rcases Uq (k:=k+1) h3 with h4 | ⟨j,h4,h5⟩
   ·exact .inl h4
   ·exact .inr ⟨j+1,by rw[h4];simp;omega,by simp;omega⟩
structure Lb(LL:List (List Ch)):Prop where
 jI:LL.length≤6
 each:∀i,i<LL.length→(nth LL i).length≤1000
 cu:∀i j,i<LL.length→j<(nth LL i).length→0≤(nth (nth LL i) j).cu∧(nth (nth LL i) j).cu≤1073741824
 kl:∀i j,i<LL.length→j<(nth LL i).length→0≤(nth (nth LL i) j).kl∧(nth (nth LL i) j).kl≤1073741824
 km:∀i j,i<LL.length→j<(nth LL i).length→0≤(nth (nth LL i) j).km∧(nth (nth LL i) j).km≤1
def pb(k:Int):Part→Prop
 |none=>True
 |some (p,s,f)=>(0≤p∧p≤1073741824*k)∧(0≤s∧s≤k)∧0≤f
theorem aeS{rest:Int→Part}{left k:Int}(hr:∀x,pb k (rest x)):∀{l:List Ch} {out:Part},pb (k+1) out →
  (∀c∈l,0≤c.cu∧(0≤c.kl∧c.kl≤1073741824)∧0≤c.km∧c.km≤1)→pb (k+1) (rh rest left l out)
 |[],out,h,_=>h
 |c::cs,out,h,hc=>by
  unfold rh;split
  ·exact h
  ·refine aeS hr ?_ fun c hm=>hc c (by simp[hm])
   have h1:=hr (left-c.cu);obtain⟨c1,c2,c3⟩:=hc c (by simp)
   have ok:∀p s f,pb k (some (p,s,f))→pb (k+1) (some (p+c.kl,s+c.km,c.cu)):=fun p s f q=>by
    simp only[pb]at q ⊢;omega
   unfold df;split
   ·exact h
   ·rename_i p s f e
    rw[e]at h1;split
    ·exact ok _ _ _ h1
    ·split
     ·exact ok _ _ _ h1
     ·exact h
theorem Gi{α:Type}[Inhabited α]{l:List α}{a:α}(h:a∈l):∃i,i<l.length∧nth l i=a:=by
 obtain⟨i,hi,rfl⟩:=List.getElem_of_mem h;exact⟨i,hi,by simp[nth,hi]⟩
theorem aeT:∀{LL:List (List Ch)} {left:Int},(∀l∈LL,∀c∈l,0≤c.cu∧(0≤c.kl∧c.kl≤1073741824)∧0≤c.km∧c.km≤1)→pb LL.length (kn LL left)
 |[],left,_=>by simp[kn,pb]
 |l::ls,left,h=>by
  have:=aeS (left:=left) (k:=ls.length) (l:=l) (out:=none) (fun x=>aeT (LL:=ls) (left:=x) fun l hl=>h l (by simp[hl])) trivial (h l (by simp))
  simpa [kn] using this
theorem Lb.all{LL:List (List Ch)}(h:Lb LL):∀l∈LL,∀c∈l,0≤c.cu∧(0≤c.kl∧c.kl≤1073741824)∧0≤c.km∧c.km≤1:=by
 intro l hl c hc;obtain⟨i,hi,rfl⟩:=Gi hl;obtain⟨j,hj,rfl⟩:=Gi hc;exact⟨(h.cu i j hi hj).1,h.kl i j hi hj,h.km i j hi hj⟩
theorem Lb.pb{LL:List (List Ch)}(h:Lb LL)(i:Nat)(left:Int):pb (LL.length:Int) (kn (LL.drop i) left):=by
 have h1:=aeT (LL:=LL.drop i) (left:=left) (fun l hl=>h.all l (KQ hl));cases hb:kn (LL.drop i) left with
 |none=>trivial
 |some q =>
  obtain⟨p,s,f⟩:=q;rw[hb]at h1;simp only[Go.Proofs.YtcelmhaoipbdiaaGreat.pb]at h1 ⊢;have:(LL.drop i).length≤LL.length:=by simp
  omega
theorem Ur{LL:List (List Ch)}{i:Nat}(h:i<LL.length)(left:Int):kn (LL.drop i) left=rh (kn (LL.drop (i+1))) left (nth LL i) none:=by
 rw[m7 h];rfl
theorem as5(a b:Int):V.nI true [0,0] (.agg [i64 a,i64 b]) (.agg [i64 a,i64 b])=some true:=by simp[V.nI,eJ,kO]
theorem as6{LL:List (List Ch)}(hL:Lb LL):∀(k i:Nat) (left:Int) (m:Cf),k=LL.length-i→i≤LL.length→0≤left→left≤1073741824→yS LL m →
  ∃m',aX F 216 [i64 i,i64 left,.bH 0 0,.bH 2 0,.bH 3 0] (gl 216 LL m)=some (nx (kn (LL.drop i) left),gl 216 LL m')∧yS LL m':=by
 intro k;induction k with
 |zero =>
  intro i left m hk hi h0 h1 hm;obtain rfl:i=LL.length:=by omega
  refine⟨m,bL rfl rfl ?_,hm⟩;rw[rJ,kn];simp (disch:=omega) [-getElem?_pos,wrap64,Ju,gl];rfl
 |succ k ih =>
  intro i left m hk hi h0 h1 hm
  suffices h:∀Q:V→List aP→Prop,(∀m',yS LL m'→Q (nx (kn (LL.drop i) left)) (gl 216 LL m'))→gw (aX F) 216 [i64 i,i64 left,.bH 0 0,.bH 2 0,.bH 3 0] (gl 216 LL m) Q by
   obtain⟨_,_,h,m',h1,rfl,rfl⟩:=h (fun v G=>∃m',yS LL m'∧v=nx (kn (LL.drop i) left)∧G=gl 216 LL m') fun m' a=>⟨m',a,rfl,rfl⟩;exact⟨m',h,h1⟩
  intro Q hQ;refine gF rfl rfl ?_;have bI:i<LL.length:=by omega
  have xE:¬(i:Int)=LL.length:=by omega
  have oT:=as5 i left;have Ge:=hL.jI;rcases Uq (LL:=LL) (i:=i) (left:=left) (m:=m) (k:=0) hm with hf | ⟨j,hf,hj⟩
  ·rw[Ur bI left]at hQ
   generalize hW:rh (kn (LL.drop (i+1))) left (nth LL i) none=W at hQ;have hn:=hL.each i bI;simp (disch:=omega) [-getElem?_pos,wrap64,Ju,gl,xE,oT,hf,aY (l:=LL)];have yG:∀(out:Part) (m:Cf),out=W→yS LL m→(nJ true [0,0] (.agg [i64 i,i64 left]) (tn m) 0=some none∧∃m',yS LL m'∧tn m++[(.agg [i64 i,i64 left],nx out)]=tn m') ∨
     ∃j v,nJ true [0,0] (.agg [i64 i,i64 left]) (tn m) 0=some (some (j,v))∧∃m',yS LL m'∧(tn m).set j (.agg [i64 i,i64 left],nx out)=tn m':=by
    rintro out m rfl hm;rw[←Ur bI left]at hW;rcases Uq (LL:=LL) (i:=i) (left:=left) (m:=m) (k:=0) hm with h5 | ⟨j,h5,hj⟩
    ·refine .inl ⟨h5,m++[(((i:Int),left),out)],fun e he=>?_,by simp[tn]⟩
     rcases mS.1 he with h6|h6
     ·exact hm e h6
     ·obtain rfl:=pq.1 h6
      exact⟨i,rfl,hW.symm⟩
    ·refine .inr ⟨_,_,h5,m.set (0+j) (((i:Int),left),out),fun e he=>?_,by simp[tn,Pm]⟩
     rcases List.mem_or_eq_of_mem_set he with h6|rfl
     ·exact hm e h6
     ·exact⟨i,rfl,hW.symm⟩
   refine go_loop (fun x:Nat×Part×Cf=>asg i left (.bH 2 0) (.bH 3 0) (.slice none 3 ((nth LL i).map Ch.row)) (nth LL i).length x.1 [.bool false,i64 0,i64 0,i64 0] (jX x.2.1) (gl 216 LL x.2.2))
    (fun x=>x.1≤(nth LL i).length∧rh (kn (LL.drop (i+1))) left ((nth LL i).drop x.1) x.2.1=W∧yS LL x.2.2) (fun x=>(nth LL i).length-x.1) (0,none,m) rfl (by simp[gl,jX]) ⟨by omega,by simpa using hW,hm⟩ ?_
   rintro⟨j,out,m⟩ ⟨hj,hq,hm⟩;simp only at hj hq hm;simp (disch:=omega) [-getElem?_pos,wrap64,ad9,gl];refine bB (fun h2=>?_) (fun h2=>?_)
   ·have h2:j<(nth LL i).length:=by omega
    have a1:=hL.cu i j bI h2;have a2:=hL.kl i j bI h2;have a3:=hL.km i j bI h2;rw[m7 h2,rh]at hq;have gt:=aY h2;simp (disch:=omega) [-getElem?_pos,wrap64,gt];refine bB (fun h3=>?_) (fun h3=>?_)
    ·rw[aK h3]at hq
     rcases yG out m hq hm with⟨g1,m2,g2,g3⟩ | ⟨j2,v2,g1,m2,g2,g3⟩
     ·have:=hQ m2 g2
      cases pV:W with
      |none =>
       rw[hq]at g3;rw[pV]at this g3;simp only[gl,← g3,nx,jX]at this;simp (disch:=omega) [-getElem?_pos,wrap64,hq,pV,jX,oT,g1];exact this
      |some q =>
       obtain⟨p,s,f⟩:=q;rw[hq]at g3;rw[pV]at this g3;simp only[gl,← g3,nx,jX]at this;simp (disch:=omega) [-getElem?_pos,wrap64,hq,pV,jX,oT,g1];exact this
     ·have:=hQ m2 g2
      cases pV:W with
      |none =>
       rw[hq]at g3;rw[pV]at this g3;simp only[gl,← g3,nx,jX]at this;simp (disch:=omega) [-getElem?_pos,wrap64,hq,pV,jX,oT,g1];exact this
      |some q =>
       obtain⟨p,s,f⟩:=q;rw[hq]at g3;rw[pV]at this g3;simp only[gl,← g3,nx,jX]at this;simp (disch:=omega) [-getElem?_pos,wrap64,hq,pV,jX,oT,g1];exact this
    ·obtain⟨m',hI,wc⟩:=ih (i+1) (left-(nth (nth LL i) j).cu) m (by omega) (by omega) (by omega) (by omega) hm
     have hp:=hL.pb (i+1) (left-(nth (nth LL i) j).cu);rw[av h3]at hq;unfold df at hq;simp only[gl]at hI
     push_cast at hI
     cases hb:kn (LL.drop (i+1)) (left-(nth (nth LL i) j).cu) with
     |none =>
      rw[hb]at hI hp hq;simp only[nx,jX]at hI;simp only at hq;simp (disch:=omega) [-getElem?_pos,wrap64,hI];exact bu (j+1,out,m') (by simp[gl]) ⟨by omega,hq,wc⟩ (by simp;omega)
     |some q =>
      obtain⟨p,s,f⟩:=q;rw[hb]at hI hp hq;simp only[nx,jX]at hI;simp only at hq;simp only[pb]at hp;have hB:=fun a b=>as1 a b [] [] (by simp) []
      simp only[ints,Bf]at hB;cases out with
      |none =>
       simp only at hq;simp (disch:=omega) [-getElem?_pos,wrap64,hI,jX];exact bu (j+1,some (p+(nth (nth LL i) j).kl,s+(nth (nth LL i) j).km,(nth (nth LL i) j).cu),m') (by simp[gl,jX]) ⟨by omega,hq,wc⟩ (by simp;omega)
      |some o =>
       obtain⟨p',s',f'⟩:=o;simp only at hq;by_cases xF:kV (p+(nth (nth LL i) j).kl,s+(nth (nth LL i) j).km) (p',s') [] []
       ·rw[aK xF]at hq
        have hB:=hB (p+(nth (nth LL i) j).kl,s+(nth (nth LL i) j).km) (p',s');simp (disch:=omega) [-getElem?_pos,wrap64,hI,jX,hB,xF];exact bu (j+1,some (p+(nth (nth LL i) j).kl,s+(nth (nth LL i) j).km,(nth (nth LL i) j).cu),m') (by simp[gl,jX]) ⟨by omega,hq,wc⟩ (by simp;omega)
       ·rw[av xF]at hq
        have hB:=hB (p+(nth (nth LL i) j).kl,s+(nth (nth LL i) j).km) (p',s');simp (disch:=omega) [-getElem?_pos,wrap64,hI,jX,hB,xF];exact bu (j+1,some (p',s',f'),m') (by simp[gl,jX]) ⟨by omega,hq,wc⟩ (by simp;omega)
   ·obtain rfl:j=(nth LL i).length:=by omega
    rw[rJ,rh]at hq;rcases yG out m hq hm with⟨g1,m2,g2,g3⟩ | ⟨j2,v2,g1,m2,g2,g3⟩
    ·have:=hQ m2 g2
     cases pV:W with
     |none =>
      rw[hq]at g3;rw[pV]at this g3;simp only[gl,← g3,nx,jX]at this;simp (disch:=omega) [-getElem?_pos,wrap64,hq,pV,jX,oT,g1];exact this
     |some q =>
      obtain⟨p,s,f⟩:=q;rw[hq]at g3;rw[pV]at this g3;simp only[gl,← g3,nx,jX]at this;simp (disch:=omega) [-getElem?_pos,wrap64,hq,pV,jX,oT,g1];exact this
    ·have:=hQ m2 g2
     cases pV:W with
     |none =>
      rw[hq]at g3;rw[pV]at this g3;simp only[gl,← g3,nx,jX]at this;simp (disch:=omega) [-getElem?_pos,wrap64,hq,pV,jX,oT,g1];exact this
     |some q =>
      obtain⟨p,s,f⟩:=q;rw[hq]at g3;rw[pV]at this g3;simp only[gl,← g3,nx,jX]at this;simp (disch:=omega) [-getElem?_pos,wrap64,hq,pV,jX,oT,g1];exact this
  ·cases hb:kn (LL.drop i) left with
   |none =>
    rw[hb]at hf hQ;simp only[nx,jX]at hf;simp (disch:=omega) [-getElem?_pos,wrap64,Ju,gl,xE,oT,hf];exact hQ m hm
   |some q =>
    obtain⟨p,s,f⟩:=q;rw[hb]at hf hQ;simp only[nx,jX]at hf;simp (disch:=omega) [-getElem?_pos,wrap64,Ju,gl,xE,oT,hf];exact hQ m hm
noncomputable def JI(g:Int)(u:Un)(s:Us):List Ch:=(sn u s g).map fun q=>⟨q,pow u q,ji s q⟩
noncomputable def jY(us:List Un)(ss:List Us)(g:Int):List (List Ch):=List.zipWith (JI g) us ss
theorem as7(us:List Un)(ss:List Us)(g:Int):List.zipWith (JG g) us ss=(jY us ss g).map Up:=by
 rw[jY,List.map_zipWith];congr 1;funext u s;simp[JI,JG,Up]
theorem Ut{u:Un}{g:Int}(h:ij u g=0):(fJ u g).length≤200:=by
 unfold ij at h;split at h
 ·contradiction
 ·split at h
  ·cases h
  ·split at h
   ·cases h
   ·omega
theorem as8{u:Un}{s:Us}{g:Int}(h:ij u g=0):(sn u s g).length≤202:=by
 have h1:=Ut h;have h2:=FQ (oL (fJ u g++[0,s.cu]));have h3:=(B2 (fJ u g++[0,s.cu])).length_eq;have h4:(sn u s g).length≤(dedup (oL (fJ u g++[0,s.cu]))).length:=EK _ _;simp at h3;omega
structure Nt(us:List Un)(ss:List Us)(g:Int):Prop where
 jI:us.length≤6
 len:us.length=ss.length
 valid:D5 us ss
 aC7:1≤g∧g≤1073741824
 aeU:D6 us g
theorem Uu{us:List Un}{ss:List Us}{g release:Int}(h:sr us ss g release=0):Nt us ss g∧(0≤release∧release≤1073741824)∧release≤200*g:=by
 unfold sr at h;split at h
 ·cases h
 ·split at h
  ·cases h
  ·split at h
   ·cases h
   ·split at h
    ·cases h
    ·split at h
     ·cases h
     ·split at h
      ·cases h
      ·rename_i h1 h2 h3 h4 h5 h6
       exact⟨⟨by omega,iu h2,iu h3,by omega,iu h6⟩,by omega,by omega⟩
theorem Ux{us:List Un}{ss:List Us}{g:Int}(h:us.length=ss.length):(jY us ss g).length=us.length:=by simp[jY,h]
theorem ua{α β:Type}[Inhabited α][Inhabited β]{f:α→β}{l:List α}{i:Nat}(h:i<l.length):nth (l.map f) i=f (nth l i):=by
 simp[nth,h]
theorem Gj{α β γ:Type}[Inhabited α][Inhabited β][Inhabited γ]{f:α→β→γ}{a:List α}{b:List β}{i:Nat}(h1:i<a.length)(h2:i<b.length):nth (List.zipWith f a b) i=f (nth a i) (nth b i):=by
 simp[nth,List.getElem?_zipWith,h1,h2]
theorem oo{α:Type}[Inhabited α]{l:List α}{i:Nat}(h:i<l.length):nth l i∈l:=g9 (aY h)
theorem aeV{us:List Un}{ss:List Us}{g:Int}(h:Nt us ss g):Lb (jY us ss g):=by
 have hl:=h.len;have e:∀i,i<(jY us ss g).length→nth (jY us ss g) i=JI g (nth us i) (nth ss i):=fun i hi=>by
  rw[Ux hl]at hi;exact Gj hi (by omega)
 have c:∀i j,i<(jY us ss g).length→j<(nth (jY us ss g) i).length→∃q,kJ (nth us i) (nth ss i) q∧nth (nth (jY us ss g) i) j=⟨q,pow (nth us i) q,ji (nth ss i) q⟩:=fun i j hi hj=>by
  rw[e i hi]at hj ⊢;have vQ:j<(sn (nth us i) (nth ss i) g).length:=by simpa [JI] using hj
  refine⟨nth (sn (nth us i) (nth ss i) g) j,?_,ua vQ⟩;have:=oo vQ;simp only[sn,zK,kA]at this;exact this.2
 refine⟨by rw[Ux hl];exact h.jI,fun i hi=>?_,fun i j hi hj=>?_,fun i j hi hj=>?_,fun i j hi hj=>?_⟩
 ·rw[e i hi]
  rw[Ux hl]at hi;have:=as8 (s:=nth ss i) (h.aeU i hi);simp[JI];omega
 ·obtain⟨q,h1,h2⟩:=c i j hi hj
  rw[h2];exact Np h1
 ·obtain⟨q,h1,h2⟩:=c i j hi hj
  rw[h2];exact JF
 ·obtain⟨q,h1,h2⟩:=c i j hi hj
  rw[h2];exact Nq
noncomputable def lI(us:List Un)(ss:List Us)(g release:Int):Int:=if sr us ss g release≠0 then sr us ss g release else if nR (jY us ss g) release=none then 9 else 0
noncomputable def iT(us:List Un)(ss:List Us)(g release:Int):List Int:=if sr us ss g release≠0 then [] else (nR (jY us ss g) release).getD []
theorem aeW{LL:List (List Ch)}:∀{l:List Ch} {rest:Int→Part} {left:Int} {out:Part} {p s f:Int},(∀q t e,out=some (q,t,e)→e≤left)→rh rest left l out=some (p,s,f)→f≤left
 |[],rest,left,out,p,s,f,h,he=>h _ _ _ (by simpa [rh] using he)
 |c::cs,rest,left,out,p,s,f,h,he=>by
  unfold rh at he;split at he
  ·exact h _ _ _ he
  ·refine aeW (LL:=LL) (fun q t e hq=>?_) he
   unfold df at hq;split at hq
   ·exact h _ _ _ hq
   ·split at hq
    ·cases hq;omega
    ·split at hq
     ·cases hq;omega
     ·cases hq;exact h _ _ _ rfl
theorem as9(us:List Un)(ss:List Us)(g release:Int):∃G',aX F 204 [lG us,jJ ss,i64 g,i64 release] []=some (.tuple [own (iT us ss g release),i64 (lI us ss g release)],G'):=by
 suffices h:∀Q:V→List aP→Prop,(∀G,Q (.tuple [own (iT us ss g release),i64 (lI us ss g release)]) G)→gw (aX F) 204 [lG us,jJ ss,i64 g,i64 release] [] Q by
  obtain⟨_,_,h,rfl⟩:=h (fun v _=>v=.tuple [own (iT us ss g release),i64 (lI us ss g release)]) fun _=>rfl;exact⟨_,h⟩
 intro Q hQ;refine gF rfl rfl ?_;have hS:=as4 us ss g release [];by_cases h0:sr us ss g release=0
 ·rw[h0,aK rfl,as7]at hS
  obtain⟨h1,h2,h3⟩:=Uu h0;have hL:=aeV h1;have eL:iT us ss g release=(nR (jY us ss g) release).getD []:=by simp[iT,h0]
  have eE:lI us ss g release=if nR (jY us ss g) release=none then 9 else 0:=by simp[lI,h0]
  rw[eL,eE]at hQ;have Ge:=hL.jI;generalize hLL:jY us ss g=LL at *;simp (disch:=omega) [wrap64,TJ,hS];refine go_loop (fun x:List Int×Int×Cf=>ar3 (.bH 0 0) (.bH 3 0) (.slice (some 1048) 1 (x.1.map fun n=>[i64 n])) x.2.1 x.1.length (gl 216 LL x.2.2))
   (fun x=>x.1.length≤LL.length∧(0≤x.2.1∧x.2.1≤1073741824)∧(nR (LL.drop x.1.length) x.2.1).map (x.1 ++ ·)=nR LL release∧yS LL x.2.2) (fun x=>LL.length-x.1.length) ([],release,[]) rfl (by simp[gl,tn]) ⟨by simp,by simpa using h2,by simp,fun e he=>by simp at he⟩ ?_
  rintro⟨fs,left,m⟩ ⟨i1,i2,i3,i4⟩;simp only at i1 i2 i3 i4;simp (disch:=omega) [wrap64,adY,gl];refine bB (fun h4=>?_) (fun h4=>?_)
  ·have h4:fs.length<LL.length:=by omega
   obtain⟨m',hI,wc⟩:=as6 hL (LL.length-fs.length) fs.length left m rfl i1 i2.1 i2.2 i4;have hp:=hL.pb fs.length left;have hd:LL.drop fs.length=nth LL fs.length::LL.drop (fs.length+1):=m7 h4;rw[hd,nR,← hd]at i3;cases hb:kn (LL.drop fs.length) left with
   |none =>
    rw[hb]at hI i3;simp only[nx,jX,gl]at hI;simp only[K2]at i3;rw[←i3]at hQ;simp only[if_true,PC]at hQ;simp (disch:=omega) [wrap64,hI];exact hQ _
   |some q =>
    obtain⟨p,s,f⟩:=q;rw[hb]at hI i3 hp;have hf:f≤left:=by
     rw[Ur h4]at hb;exact aeW (LL:=LL) (fun q t e hq=>by cases hq) hb
    simp only[nx,jX,gl]at hI;simp only[pb]at hp;simp only at i3;simp (disch:=omega) [wrap64,hI];refine bu (fs++[f],left-f,m') (by simp[gl]) ⟨by simp;omega,by simp;omega,?_,wc⟩ (by simp;omega)
    rw[←i3];simp[Function.comp_def]
  ·have e:fs.length=LL.length:=by omega
   rw[e,rJ,nR]at i3;simp only[nd,Hh]at i3;rw[←i3]at hQ;simpa using hQ _
 ·rw[av h0]at hS
  have eL:iT us ss g release=[]:=by simp[iT,h0]
  have eE:lI us ss g release=sr us ss g release:=by simp[lI,h0]
  rw[eL,eE]at hQ;simp (disch:=omega) [wrap64,TJ,hS,h0];exact hQ _
end Go.Proofs.YtcelmhaoipbdiaaGreat
namespace Go.Proofs.YtcelmhaoipbdiaaGreat
set_option linter.all false
open Go.Vm
def xG(a b:Int×Int):Prop:=b.1<a.1∨(a.1=b.1∧a.2<b.2)
theorem AO{a b:Int×Int}{p q:List Int}:kV a b p q↔xG a b∨(a.1=b.1∧a.2=b.2∧gy p q<0):=by
 unfold kV xG;split
 ·omega
 ·split<;>omega
theorem atb{a:Int}{p q:List Int}:gy (a::p) (a::q)=gy p q:=by simp[gy]
theorem atc{a b:Int}{p q:List Int}(h:b<a):¬gy (a::p) (b::q)<0:=by
 simp only[gy];rw[av (by omega),aK h]
 omega
def wi:List (List Ch)→List Ch→Prop
 |[],[]=>True
 |l::ls,c::P=>c∈l∧wi ls P
 |_,_=>False
def sF(P:List Ch):Int:=(P.map Ch.cu).sum
def sP(P:List Ch):Int:=(P.map Ch.kl).sum
def sS(P:List Ch):Int:=(P.map Ch.km).sum
theorem atd{LL:List (List Ch)}:∀{P:List Ch},(∀l∈LL,∀c∈l,0≤c.cu)→wi LL P→0≤sF P:=by
 induction LL with
 |nil=>intro P _ hp;cases P with
  |nil=>simp[sF]
  |cons c P=>exact hp.elim
 |cons l ls ih =>
  intro P h hp;cases P with
  |nil=>exact hp.elim
  |cons c P =>
   have h1:=ih (fun l hl=>h l (by simp[hl])) hp.2
   have h2:=h l (by simp) c hp.1
   simp only[sF,oH,Pr]at h1 ⊢;omega
structure Top(LL:List (List Ch))(left:Int)(P:List Ch):Prop where
 D7:wi LL P
 sum:sF P≤left
 best:∀Q,wi LL Q→sF Q≤left→¬kV (sP Q,sS Q) (sP P,sS P) (Q.map Ch.cu) (P.map Ch.cu)
structure Jn(ls:List (List Ch))(left:Int)(pre:List Ch)(p s f:Int)(c:Ch)(P:List Ch):Prop where
 mem:c∈pre
 cu:c.cu=f
 D7:wi ls P
 sum:c.cu+sF P≤left
 kl:c.kl+sP P=p
 km:c.km+sS P=s
 rest:nR ls (left-f)=some (P.map Ch.cu)
 best:∀d∈pre,∀Q,wi ls Q→d.cu+sF Q≤left→¬kV (d.kl+sP Q,d.km+sS Q) (p,s) (d.cu::Q.map Ch.cu) (c.cu::P.map Ch.cu)
def J(ls:List (List Ch))(left:Int)(pre:List Ch):Part→Prop
 |none=>∀c∈pre,∀Q,wi ls Q→left<c.cu+sF Q
 |some (p,s,f)=>∃c P,Jn ls left pre p s f c P
theorem aeX{ls:List (List Ch)}{left:Int}{pre:List Ch}{out:Part}{l:List Ch}(h:J ls left pre out)(hn:∀c∈l,∀Q,wi ls Q→left<c.cu+sF Q):J ls left (pre++l) out:=by
 cases out with
 |none =>
  intro c hc Q hQ;rcases mS.1 hc with h1|h1
  ·exact h c h1 Q hQ
  ·exact hn c h1 Q hQ
 |some q =>
  obtain⟨p,s,f⟩:=q;obtain⟨c,P,j⟩:=h;refine⟨c,P,⟨by simp[j.mem],j.cu,j.D7,j.sum,j.kl,j.km,j.rest,fun d hd Q hQ hs=>?_⟩⟩
  rcases mS.1 hd with h1|h1
  ·exact j.best d h1 Q hQ hs
  ·have:=hn d h1 Q hQ
   omega
def Good(ls:List (List Ch)):Prop:=∀left,0≤left→match kn ls left with
 |none=>∀Q,wi ls Q→left<sF Q
 |some (p,s,_)=>∃P,Top ls left P∧sP P=p∧sS P=s∧nR ls left=some (P.map Ch.cu)
theorem atg{ls:List (List Ch)}(hg:Good ls){left:Int}{pre:List Ch}{out:Part}{c:Ch}(h:J ls left pre out)(Nu:∀d∈pre,d.cu<c.cu)(hle:c.cu≤left):J ls left (pre++[c]) (df (kn ls) left c out):=by
 have hg:=hg (left-c.cu) (by omega)
 unfold df;cases hb:kn ls (left-c.cu) with
 |none =>
  rw[hb]at hg;exact aeX h fun d hd Q hQ=>by
   obtain rfl:=pq.1 hd;have:=hg Q hQ;omega
 |some q =>
  obtain⟨p0,s0,f0⟩:=q;rw[hb]at hg;obtain⟨P0,t,rfl,rfl,e0⟩:=hg;have new:∀d∈[c],∀Q,wi ls Q→d.cu+sF Q≤left→¬kV (d.kl+sP Q,d.km+sS Q) (sP P0+c.kl,sS P0+c.km) (d.cu::Q.map Ch.cu) (c.cu::P0.map Ch.cu):=by
   intro d hd Q hQ hs xI;obtain rfl:=pq.1 hd;refine t.best Q hQ (by omega) ?_
   rw[AO]at xI ⊢;rw[atb]at xI;unfold xG at xI ⊢;simp only at xI ⊢;omega
  have ts:=t.sum;cases out with
  |none =>
   simp only;refine⟨c,P0,⟨by simp,rfl,t.D7,by omega,by omega,by omega,e0,fun d hd Q hQ hs=>?_⟩⟩
   rcases mS.1 hd with h1|h1
   ·have:=h d h1 Q hQ;omega
   ·exact new d h1 Q hQ hs
  |some o =>
   obtain⟨p,s,f⟩:=o;obtain⟨c1,P1,j⟩:=h;simp only;split
   ·rename_i xI
    rw[AO]at xI;have hv:xG (sP P0+c.kl,sS P0+c.km) (p,s):=by
     rcases xI with h|h
     ·exact h
     ·simp[gy]at h
    unfold xG at hv;simp only at hv;refine⟨c,P0,⟨by simp,rfl,t.D7,by omega,by omega,by omega,e0,fun d hd Q hQ hs=>?_⟩⟩
    rcases mS.1 hd with h1|h1
    ·have:=j.best d h1 Q hQ hs
     rw[AO]at this ⊢;unfold xG at this ⊢;simp only at this ⊢;omega
    ·exact new d h1 Q hQ hs
   ·rename_i xI
    rw[AO]at xI;unfold xG at xI;simp only at xI;refine⟨c1,P1,⟨by simp[j.mem],j.cu,j.D7,j.sum,j.kl,j.km,j.rest,fun d hd Q hQ hs=>?_⟩⟩
    rcases mS.1 hd with h1|h1
    ·exact j.best d h1 Q hQ hs
    ·have h2:=new d h1 Q hQ hs
     obtain rfl:=pq.1 h1;have h3:=atc (p:=Q.map Ch.cu) (q:=P1.map Ch.cu) (Nu c1 j.mem);rw[AO]at h2 ⊢;unfold xG at h2 ⊢;simp only at h2 ⊢;omega
theorem aeY{ls:List (List Ch)}(hg:Good ls)(h0:∀l∈ls,∀c∈l,0≤c.cu){left:Int}:∀{cs pre:List Ch} {out:Part},(pre++cs).Pairwise (fun a b=>a.cu<b.cu)→J ls left pre out→J ls left (pre++cs) (rh (kn ls) left cs out)
 |[],pre,out,_,h=>by simpa [rh] using h
 |c::cs,pre,out,hp,h=>by
  have zY:=List.pairwise_append.1 hp;unfold rh;split
  ·rename_i bI
   refine aeX h fun d hd Q hQ=>?_;have:=atd h0 hQ;rcases jQ.1 hd with rfl|h1
   ·omega
   ·have:=(xW.1 zY.2.1).1 d h1
    omega
  ·have h1:=atg hg h (c:=c) (fun d hd=>zY.2.2 d hd c (by simp)) (by omega)
   have h2:=aeY hg h0 (cs:=cs) (pre:=pre++[c]) (by simpa using hp) h1
   simpa using h2
def Asc(LL:List (List Ch)):Prop:=∀l∈LL,l.Pairwise fun a b=>a.cu<b.cu
theorem ae0:∀{LL:List (List Ch)},(∀l∈LL,∀c∈l,0≤c.cu)→Asc LL→Good LL
 |[],_,_=>fun left h0=>by
  simp only[kn];refine⟨[],⟨trivial,by simpa [sF] using h0,fun Q hQ _=>?_⟩,rfl,rfl,rfl⟩
  cases Q with
  |nil=>simp[kV,gy]
  |cons c Q=>exact hQ.elim
 |l::ls,h0,ha=>fun left pG=>by
  have hg:Good ls:=ae0 (fun l hl=>h0 l (by simp[hl])) (fun l hl=>ha l (by simp[hl]))
  have hj:=aeY hg (fun l hl=>h0 l (by simp[hl])) (left:=left) (cs:=l) (pre:=[]) (out:=none) (by simpa using ha l (by simp)) (fun c hc=>by simp at hc)
  simp only[EM]at hj;have e:kn (l::ls) left=rh (kn ls) left l none:=rfl;rw[e];cases hb:rh (kn ls) left l none with
  |none =>
   rw[hb]at hj;intro Q hQ;cases Q with
   |nil=>exact hQ.elim
   |cons c Q =>
    have:=hj c hQ.1 Q hQ.2;simpa [sF] using this
  |some q =>
   obtain⟨p,s,f⟩:=q;rw[hb]at hj;obtain⟨c,P,j⟩:=hj;have j4:=j.sum;have j5:=j.kl;have j6:=j.km;refine⟨c::P,⟨⟨j.mem,j.D7⟩,by simpa [sF] using j4,fun Q hQ hs=>?_⟩,by simpa [sP] using j5,by simpa [sS] using j6,?_⟩
   ·cases Q with
    |nil=>exact hQ.elim
    |cons d Q =>
     have:=j.best d hQ.1 Q hQ.2 (by simpa [sF] using hs)
     have e1:sP (c::P)=p:=by simpa [sP] using j5
     have e2:sS (c::P)=s:=by simpa [sS] using j6
     rw[e1,e2];simpa [sP,sS] using this
   ·rw[nR,e,hb]
    simp only;rw[j.rest];simp[j.cu]
end Go.Proofs.YtcelmhaoipbdiaaGreat
namespace Go.Proofs.YtcelmhaoipbdiaaGreat
set_option linter.all false
open Go.Vm
theorem Uy{x:Int}:∀{l:List Int},x∈dedup l↔x∈l
 |[]=>Iff.rfl
 |[a]=>Iff.rfl
 |a::b::r=>by
  have ih:=Uy (x:=x) (l:=b::r);unfold dedup;by_cases h:a=b
  ·simp only[h,beq_self_eq_true,bM,ih]
   simp
  ·have h':(a==b)=false:=by simpa using h
   simp only[h',fu,jQ,ih]
theorem ae3:∀{l:List Int},l.Pairwise (· ≤ ·)→(dedup l).Pairwise (· < ·)
 |[],_=>.nil
 |[a],_=>by simp[dedup]
 |a::b::r,h=>by
  obtain⟨h1,h2⟩:=xW.1 h;have ih:=ae3 h2;unfold dedup;by_cases tm:a=b
  ·simp only[tm,beq_self_eq_true,bM]
   exact ih
  ·have h':(a==b)=false:=by simpa using tm
   simp only[h',fu,xW];refine⟨fun x hx=>?_,ih⟩;rw[Uy]at hx;have h3:=h1 b (by simp)
   rcases jQ.1 hx with rfl|h4
   ·omega
   ·have:=(xW.1 h2).1 x h4
    omega
theorem Gk{u:Un}{s:Us}{g q:Int}:q∈sn u s g↔(q∈fJ u g∨q=0∨q=s.cu)∧kJ u s q:=by
 simp only[sn,zK,Uy,(B2 _).mem_iff,kA,mS,jQ,List.not_mem_nil,or_false]
theorem ati{u:Un}{s:Us}{g:Int}:(sn u s g).Pairwise (· < ·):=(ae3 (RX _)).filter _
def ny(g:Int):List Un→List Us→List Int→Prop
 |u::us,s::ss,q::F=>q∈sn u s g∧ny g us ss F
 |[],[],[]=>True
 |_,_,_=>False
noncomputable def js:List Un→List Int→Int
 |u::us,q::F=>pow u q+js us F
 |_,_=>0
def jt:List Us→List Int→Int
 |s::ss,q::F=>ji s q+jt ss F
 |_,_=>0
noncomputable def wj:List Un→List Us→List Int→List Ch
 |u::us,s::ss,q::F=>⟨q,pow u q,ji s q⟩::wj us ss F
 |_,_,_=>[]
theorem D8{g:Int}:∀{us:List Un} {ss:List Us} {F:List Int},ny g us ss F→F.length=us.length∧F.length=ss.length
 |[],[],[],_=>⟨rfl,rfl⟩
 |_::_,_::_,_::_,h=>by have:=D8 h.2;simp;omega
 |[],_::_,_,h=>h.elim
 |[],[],_::_,h=>h.elim
 |_::_,[],_,h=>h.elim
 |_::_,_::_,[],h=>h.elim
theorem Nv{g:Int}:∀{us:List Un} {ss:List Us} {F:List Int},ny g us ss F→wi (jY us ss g) (wj us ss F)∧(wj us ss F).map Ch.cu=F∧sF (wj us ss F)=F.sum∧sP (wj us ss F)=js us F∧sS (wj us ss F)=jt ss F
 |[],[],[],_=>⟨trivial,rfl,rfl,rfl,rfl⟩
 |u::us,s::ss,q::F,h=>by
  obtain⟨h1,h2,h3,h4,h5⟩:=Nv h.2;refine⟨⟨nc.2 ⟨q,h.1,rfl⟩,h1⟩,by simp[wj,h2],?_,?_,?_⟩
  ·simp only[sF]at h3 ⊢;simp[wj,h3]
  ·simp only[sP]at h4 ⊢;simp[wj,js,h4]
  ·simp only[sS]at h5 ⊢;simp[wj,jt,h5]
 |[],_::_,_,h=>h.elim
 |[],[],_::_,h=>h.elim
 |_::_,[],_,h=>h.elim
 |_::_,_::_,[],h=>h.elim
theorem ae4{g:Int}:∀{us:List Un} {ss:List Us} {P:List Ch},us.length=ss.length→wi (jY us ss g) P→ny g us ss (P.map Ch.cu)∧P=wj us ss (P.map Ch.cu)
 |[],[],[],_,_=>⟨trivial,rfl⟩
 |[],[],_::_,_,h=>h.elim
 |[],_::_,_,h,_=>by simp at h
 |_::_,[],_,h,_=>by simp at h
 |_::_,_::_,[],_,h=>h.elim
 |u::us,s::ss,c::P,hl,h=>by
  obtain⟨h1,h2⟩:=ae4 (by simpa using hl) h.2
  obtain⟨q,hq,rfl⟩:=nc.1 h.1;exact⟨⟨hq,h1⟩,by simp[wj];exact h2⟩
structure D9(g:Int)(us:List Un)(ss:List Us)(left:Int)(F:List Int):Prop where
 ny:ny g us ss F
 sum:F.sum≤left
 best:∀E,Go.Proofs.YtcelmhaoipbdiaaGreat.ny g us ss E→E.sum≤left→¬kV (js us E,jt ss E) (js us F,jt ss F) E F
theorem ae5{g:Int}:∀{us:List Un} {ss:List Us},Asc (jY us ss g)
 |[],_=>fun l hl=>by simp[jY]at hl
 |_::_,[]=>fun l hl=>by simp[jY]at hl
 |u::us,s::ss=>fun l hl=>by
  rcases jQ.1 hl with rfl|h
  ·exact WN.2 ati
  ·exact ae5 (us:=us) (ss:=ss) l h
theorem ae6{us:List Un}{ss:List Us}{g left:Int}(hs:Nt us ss g)(h0:0≤left) :
  match nR (jY us ss g) left with
  |none=>∀F,ny g us ss F→left<F.sum
  |some F=>D9 g us ss left F:=by
 have hL:=aeV hs;have hn:∀l∈jY us ss g,∀c∈l,0≤c.cu:=fun l hl c hc=>(hL.all l hl c hc).1;have hg:=ae0 hn ae5;have Dn:=hg left h0;cases hb:kn (jY us ss g) left with
 |none =>
  rw[hb]at Dn;have e:nR (jY us ss g) left=none:=by
   cases hl:jY us ss g with
   |nil=>rw[hl]at hb;simp[kn]at hb
   |cons l ls=>rw[nR,← hl,hb]
  rw[e];intro F hF;obtain⟨h1,_,h3,_⟩:=Nv hF;have:=Dn _ h1;omega
 |some q =>
  obtain⟨p,s,f⟩:=q;rw[hb]at Dn;obtain⟨P,t,_,_,e⟩:=Dn;rw[e];obtain⟨h1,h2⟩:=ae4 hs.len t.D7;obtain⟨_,_,h3,h4,h5⟩:=Nv h1;rw[←h2]at h3 h4 h5;refine⟨h1,by have:=t.sum;omega,fun E hE hs=>?_⟩
  obtain⟨e1,e2,e3,e4,e5⟩:=Nv hE;have:=t.best _ e1 (by omega)
  rwa [e2,e4,e5,h4,h5]at this
theorem ae7:∀{p q:List Int},p.length=q.length→(gy p q<0∨gy q p<0∨p=q)
 |[],[],_=>.inr (.inr rfl)
 |[],_::_,h=>by simp at h
 |_::_,[],h=>by simp at h
 |a::p,b::q,h=>by
  have ih:=ae7 (p:=p) (q:=q) (by simpa using h)
  simp only[gy];rcases He a b with h1|h1|h1
  ·left;simp[h1]
  ·subst h1
   simp only[Hd,if_false];rcases ih with h2|h2|h2
   ·exact .inl h2
   ·exact .inr (.inl h2)
   ·exact .inr (.inr (by rw[h2]))
  ·right;left;simp[h1]
theorem atj{a b:Int×Int}{p q:List Int}(h:p.length=q.length):kV a b p q∨kV b a q p∨(a=b∧p=q):=by
 rw[AO,AO];unfold xG;obtain⟨a1,a2⟩:=a;obtain⟨b1,b2⟩:=b;rcases ae7 h with h1|h1|h1
 ·simp only[Prod.mk.injEq];omega
 ·simp only[Prod.mk.injEq];omega
 ·simp only[Prod.mk.injEq,h1,and_true];omega
theorem D9.unique{g:Int}{us:List Un}{ss:List Us}{left:Int}{F E:List Int}(h:D9 g us ss left F)(h':D9 g us ss left E):F=E:=by
 have l1:=D8 h.ny;have l2:=D8 h'.ny;rcases atj (a:=(js us F,jt ss F)) (b:=(js us E,jt ss E)) (p:=F) (q:=E) (by omega) with h1|h1|h1
 ·exact absurd h1 (h'.best F h.ny h.sum)
 ·exact absurd h1 (h.best E h'.ny h'.sum)
 ·exact h1.2
theorem ae8{g:Int}:∀{us:List Un} {ss:List Us} {F:List Int} {a b c:Int},ny g us ss F→AM us ss F (a,b,c)=some (a+F.sum,b+js us F,c+jt ss F)
 |[],[],[],a,b,c,_=>by simp[AM,js,jt]
 |u::us,s::ss,q::F,a,b,c,h=>by
  rw[AM,aK (Gk.1 h.1).2,ae8 h.2];simp only[Pr,js,jt,Option.some.injEq,Prod.mk.injEq];omega
 |[],_::_,_,_,_,_,h=>h.elim
 |[],[],_::_,_,_,_,h=>h.elim
 |_::_,[],_,_,_,_,h=>h.elim
 |_::_,_::_,[],_,_,_,h=>h.elim
theorem ae9{g:Int}{us:List Un}{ss:List Us}{F:List Int}(h:ny g us ss F):D4 us ss F=some (F.sum,js us F,jt ss F):=by
 have l:=D8 h;rw[D4,aK (by omega),ae8 h]
 simp
end Go.Proofs.YtcelmhaoipbdiaaGreat
namespace Go.Proofs.YtcelmhaoipbdiaaGreat
set_option linter.all false
open Go.Vm
attribute [local simp] ly lz kF lx
theorem afa:∀{p q:List Int},gy p q<0→¬gy q p<0
 |[],[],h=>by simp[gy]at h
 |[],_::_,_=>by simp[gy]
 |_::_,[],h=>by simp[gy]at h
 |a::p,b::q,h=>by
  have ih:=afa (p:=p) (q:=q);simp only[gy]at h ⊢;rcases He a b with h1|h1|h1
  ·rw[av (by omega),aK h1];omega
  ·subst h1
   simp only[Hd,if_false]at h ⊢;exact ih h
  ·rw[av (by omega),aK h1]at h;omega
theorem afb:∀{p q r:List Int},gy p q<0→gy q r<0→gy p r<0
 |[],[],_,h,_=>by simp[gy]at h
 |_::_,[],_,h,_=>by simp[gy]at h
 |_,_::_,[],_,h=>by simp[gy]at h
 |[],_::_,_::_,_,_=>by simp[gy]
 |a::p,b::q,c::r,h,h'=>by
  have ih:=afb (p:=p) (q:=q) (r:=r);simp only[gy]at h h' ⊢;rcases He a b with h1|h1|h1
  ·rcases He b c with h2|h2|h2
   ·rw[aK (by omega)];omega
   ·rw[aK (by omega)];omega
   ·rw[av (by omega),aK h2]at h';omega
  ·subst h1
   simp only[Hd,if_false]at h;rcases He a c with h2|h2|h2
   ·rw[aK h2];omega
   ·subst h2
    simp only[Hd,if_false]at h' ⊢;exact ih h h'
   ·rw[av (by omega),aK h2]at h';omega
  ·rw[av (by omega),aK h1]at h;omega
theorem atk{a b:Int×Int}{p q:List Int}(h:kV a b p q):¬kV b a q p:=by
 rw[AO]at h ⊢;unfold xG at h ⊢;have:=afa (p:=p) (q:=q);rcases h with h | ⟨h1,h2,h3⟩
 ·omega
 ·have:=this h3;omega
theorem atl{a b c:Int×Int}{p q r:List Int}(h:kV a b p q)(h':kV b c q r):kV a c p r:=by
 rw[AO]at h h' ⊢;unfold xG at h h' ⊢;have:=afb (p:=p) (q:=q) (r:=r);rcases h with h | ⟨h1,h2,h3⟩
 ·omega
 ·rcases h' with h' | ⟨h4,h5,h6⟩
  ·omega
  ·have:=this h3 h6
   omega
theorem afc{a:Int×Int}{p:List Int}:¬kV a a p p:=fun h=>atk h h
noncomputable def Cg(us:List Un)(ss:List Us)(g:Int):Int :=
 if 6<us.length then 10 else if us.length≠ss.length then 3 else if ¬D5 us ss then 3 else if g<1∨1073741824<g then 1 else 0
theorem atm(us:List Un)(ss:List Us)(g:Int)(G:List aP):aX F 179 [lG us,jJ ss,i64 g] G=some (i64 (Cg us ss g),G) :=
 bL rfl rfl (by
  generalize hE:Cg us ss g=E;unfold Cg at hE;simp +contextual (disch:=omega) [-getElem?_pos,wrap64,adz];refine bB (fun h1=>?_) (fun h1=>ic (fun h2=>?_) (fun h2=>?_))
  ·rw[aK (by omega)]at hE
   exact hE
  ·simp[-List.length_eq_zero_iff,-Int.natCast_eq_zero]at h2
   rw[av (by omega),aK (by omega)]at hE
   exact hE
  ·simp[-List.length_eq_zero_iff,-Int.natCast_eq_zero]at h2
   have hl:us.length=ss.length:=by omega
   rw[av (by omega),av (by omega)]at hE
   refine go_loop (fun i:Nat=>arA (jJ ss) g (lG us) us.length i G) (fun i=>i≤us.length∧∀j,j<i→fB (nth us j) (nth ss j)) (fun i=>us.length-i) 0 rfl (by simp) ⟨by omega,by omega⟩ ?_
   rintro i ⟨hi,hv⟩;simp +contextual (disch:=omega) [-getElem?_pos,wrap64,ady];refine bB (fun h3=>?_) (fun h3=>?_)
   ·have h3:i<us.length:=by omega
    by_cases h4:fB (nth us i) (nth ss i)
    ·simp +contextual (disch:=omega) [-getElem?_pos,wrap64,aY (l:=us),aY (l:=ss),yP,h4]
     refine bu (i+1) (by simp) ⟨by omega,fun j hj=>?_⟩ (by omega)
     rcases cM j i with h5|h5
     ·exact hv j h5
     ·rwa [show j=i by omega]
    ·rw[aK (fun h=>h4 (h i h3))]at hE
     simp +contextual (disch:=omega) [-getElem?_pos,wrap64,aY (l:=us),aY (l:=ss),yP,h4];exact hE
   ·obtain rfl:i=us.length:=by omega
    rw[av (fun h=>h hv)]at hE;refine ic (fun h5=>?_) (fun h5=>?_)
    ·simp[-List.length_eq_zero_iff,-Int.natCast_eq_zero]at h5
     rw[aK (by omega)]at hE
     exact hE
    ·simp[-List.length_eq_zero_iff,-Int.natCast_eq_zero]at h5
     rw[av (by omega)]at hE
     exact hE)
noncomputable def u9(u:Un)(s:Us)(g:Int):List Int:=([0,s.cu]++fJ u g).filter fun q=>decide (kJ u s q)
theorem afd{u:Un}{s:Us}{g q:Int}:q∈u9 u s g↔q∈sn u s g:=by
 rw[Gk];simp only[u9,zK,kA,mS,jQ,List.not_mem_nil,or_false];constructor
 ·rintro⟨(h|h)|h,h2⟩
  ·exact⟨.inr (.inl h),h2⟩
  ·exact⟨.inr (.inr h),h2⟩
  ·exact⟨.inl h,h2⟩
 ·rintro⟨h|h|h,h2⟩
  ·exact⟨.inr h,h2⟩
  ·exact⟨.inl (.inl h),h2⟩
  ·exact⟨.inl (.inr h),h2⟩
theorem atn{u:Un}{s:Us}{g:Int}(h:ij u g=0):(u9 u s g).length≤202:=by
 have h1:=Ut h;have:(u9 u s g).length≤([0,s.cu]++fJ u g).length:=EK _ _;simp at this;omega
theorem ato{u:Un}{s:Us}(hv:fB u s)(g:Int)(G:List aP):aX F 197 [un u,us s,i64 g] G =
  some (if ij u g=0 then .tuple [.slice (some 0) 1 ((u9 u s g).map fun n=>[i64 n]),i64 0] else .tuple [.slice (some 0) 1 [],i64 (ij u g)],G) :=
 bL rfl rfl (by
  by_cases he:ij u g=0
  ·have hlen:=Ut he
   have hf:pc u g=fJ u g:=by simp[pc,he]
   have hc:u9 u s g=(0::s.cu::fJ u g).filter fun q=>decide (kJ u s q):=rfl;rw[aK he,hc];generalize hL:(0::s.cu::fJ u g)=L;have Uz:L.length=(fJ u g).length+2:=by rw[←hL];simp
   have hLm:[i64 0]::[i64 s.cu]::(fJ u g).map (fun n=>[i64 n])=L.map fun n=>[i64 n]:=by rw[←hL];rfl
   simp (disch:=omega) [-getElem?_pos,wrap64,TI,Gd,he,hf,hLm];refine go_loop (fun i:Nat=>arT (.slice (some 1039) 1 (((L.take i).filter fun q=>decide (kJ u s q)).map fun n=>[i64 n])) (.slice (some 1024) 1 (L.map fun n=>[i64 n])) L.length i u.row s.row L.length ((L.take i).filter fun q=>decide (kJ u s q)).length G)
    (fun i=>i≤L.length) (fun i=>L.length-i) 0 rfl (by simp[Uz];omega) (by omega) ?_
   intro i hi;have YA:((L.take i).filter fun q=>decide (kJ u s q)).length≤i:=kL (EK _ _) (by simp;omega)
   simp (disch:=omega) [-getElem?_pos,wrap64,adQ];refine bB (fun h1=>?_) (fun h1=>?_)
   ·have h1:i<L.length:=by omega
    have hM:=T9 u s (nth L i) [];by_cases h3:kJ u s (nth L i)
    ·have h4:decide (fB u s∧kU u s (nth L i))=true:=dD h3
     rw[h4]at hM;have h5:(L.take (i+1)).filter (fun q=>decide (kJ u s q))=(L.take i).filter (fun q=>decide (kJ u s q))++[nth L i]:=by
      rw[jr h1,CN];simp[h3]
     simp (disch:=omega) [-getElem?_pos,wrap64,dA h1,hM];exact bu (i+1) (by rw[h5];simp) (by omega) (by omega)
    ·have h4:decide (fB u s∧kU u s (nth L i))=false:=decide_eq_false h3
     rw[h4]at hM;have h5:(L.take (i+1)).filter (fun q=>decide (kJ u s q))=(L.take i).filter (fun q=>decide (kJ u s q)):=by
      rw[jr h1,CN];simp[h3]
     simp (disch:=omega) [-getElem?_pos,wrap64,dA h1,hM];exact bu (i+1) (by rw[h5];simp) (by omega) (by omega)
   ·obtain rfl:i=L.length:=by omega
    rw[pt]
  ·rw[av he]
   have hf:pc u g=[]:=by simp[pc,he]
   simp (disch:=omega) [-getElem?_pos,wrap64,TI,Gd,he,hf])
noncomputable abbrev Nw(g:Int)(u:Un)(s:Us):List V:=[.slice none 1 ((u9 u s g).map fun n=>[i64 n])]
noncomputable def Ci(us:List Un)(g:Int):Int:=if D6 us g then 0 else 10
theorem atq{us:List Un}{ss:List Us}(hl:us.length=ss.length)(hn:us.length≤1000)(hv:D5 us ss)(g:Int)(G:List aP):aX F 180 [lG us,jJ ss,i64 g] G =
  some (.tuple [.slice (some 0) 1 (if Ci us g=0 then List.zipWith (Nw g) us ss else []),i64 (Ci us g)],G) :=
 bL rfl rfl (by
  generalize hE:Ci us g=E;generalize hW:V.tuple [.slice (some 0) 1 (if E=0 then List.zipWith (Nw g) us ss else []),i64 E]=W
  unfold Ci at hE;simp (disch:=omega) [-getElem?_pos,wrap64,adB];refine go_loop (fun i:Nat=>arC (jJ ss) g (.slice (some 1035) 1 (List.zipWith (Nw g) (us.take i) (ss.take i))) (lG us) us.length i i G)
   (fun i=>i≤us.length∧∀j,j<i→ij (nth us j) g=0) (fun i=>us.length-i) 0 rfl (by simp) ⟨by omega,by omega⟩ ?_
  rintro i ⟨hi,hf⟩;simp (disch:=omega) [-getElem?_pos,wrap64,adA];refine bB (fun h3=>?_) (fun h3=>?_)
  ·have h3:i<us.length:=by omega
   have gf:i<ss.length:=by omega
   have hC:=ato (hv i h3) g [];by_cases h4:ij (nth us i) g=0
   ·rw[aK h4]at hC
    simp (disch:=omega) [-getElem?_pos,wrap64,aY (l:=us),aY (l:=ss),hC];refine bu (i+1) ?_ ⟨by omega,fun j hj=>?_⟩ (by omega)
    ·rw[AN h3 gf];simp
    rcases cM j i with h5|h5
    ·exact hf j h5
    ·rwa [show j=i by omega]
   ·rw[av h4]at hC
    rw[av (fun h=>h4 (h i h3))]at hE;subst hE;simp (disch:=omega) [-getElem?_pos,wrap64,aY (l:=us),aY (l:=ss),hC,h4];exact hW
  ·obtain rfl:i=us.length:=by omega
   rw[aK (show D6 us g from hf)]at hE;subst hE;rw[pt,lZ (by omega)]
   simp[←hW])
end Go.Proofs.YtcelmhaoipbdiaaGreat
namespace Go.Proofs.YtcelmhaoipbdiaaGreat
set_option linter.all false
open Go.Vm
def Vd:List Nat→List Nat→Prop
 |[],[]=>True
 |n::ns,d::a=>d<n∧Vd ns a
 |_,_=>False
def sw:List Nat→Nat
 |[]=>1
 |n::ns=>n*sw ns
def rk:List Nat→List Nat→Nat
 |_::ns,d::a=>d*sw ns+rk ns a
 |_,_=>0
def inc:List Nat→List Nat→Option (List Nat)
 |n::ns,d::a=>match inc ns a with
  |some b=>some (d::b)
  |none=>if d+1<n then some ((d+1)::List.replicate a.length 0) else none
 |_,_=>none
theorem Gl:∀{ns a:List Nat},Vd ns a→a.length=ns.length
 |[],[],_=>rfl
 |_::_,_::_,h=>by simp[Gl h.2]
 |[],_::_,h=>h.elim
 |_::_,[],h=>h.elim
theorem AP:∀{ns a:List Nat},Vd ns a→∀i,i<ns.length→nth a i<nth ns i
 |n::ns,d::a,h,i,hi=>by
  cases i with
  |zero=>exact h.1
  |succ i=>exact AP h.2 i (by simpa using hi)
theorem Gm:∀{ns a:List Nat},Vd ns a→rk ns a<sw ns
 |[],[],_=>by simp[rk,sw]
 |n::ns,d::a,h=>by
  have ih:=Gm h.2;have h1:=rM (sw ns) (show d+1≤n from h.1);simp only[rk,sw];rw[oI]at h1;omega
 |[],_::_,h=>h.elim
 |_::_,[],h=>h.elim
theorem afe:∀{ns a b:List Nat},Vd ns a→Vd ns b→rk ns a=rk ns b→a=b
 |[],[],[],_,_,_=>rfl
 |n::ns,d::a,e::b,ha,hb,h=>by
  have h1:=Gm ha.2;have h2:=Gm hb.2;simp only[rk]at h;have hde:d=e:=by
   rcases Ht d e with h3|h3|h3
   ·have:=rM (sw ns) (show d+1≤e from h3)
    rw[oI]at this;omega
   ·exact h3
   ·have:=rM (sw ns) (show e+1≤d from h3)
    rw[oI]at this;omega
  subst hde;rw[afe ha.2 hb.2 (by omega)]
 |[],_::_,_,h,_,_=>h.elim
 |[],[],_::_,_,h,_=>h.elim
 |_::_,[],_,h,_,_=>h.elim
 |_::_,_::_,[],_,h,_=>h.elim
theorem UA:∀{ns:List Nat} {k:Nat},rk ns (List.replicate k 0)=0
 |[],k=>by cases k<;>rfl
 |_::ns,0=>rfl
 |_::ns,k+1=>by simp[Bh,rk,UA]
theorem UB:∀{ns:List Nat},(∀n∈ns,0<n)→Vd ns (List.replicate ns.length 0)
 |[],_=>trivial
 |n::ns,h=>⟨h n (by simp),UB fun m hm=>h m (by simp[hm])⟩
theorem aff:∀{ns a:List Nat},Vd ns a→match inc ns a with
  |none=>rk ns a+1=sw ns
  |some b=>Vd ns b∧rk ns b=rk ns a+1
 |[],[],_=>by simp[inc,rk,sw]
 |n::ns,d::a,h=>by
  have ih:=aff h.2;have hl:=Gl h.2;unfold inc;cases hi:inc ns a with
  |some b =>
   rw[hi]at ih;simp only at ih ⊢;exact⟨⟨h.1,ih.1⟩,by simp only[rk];omega⟩
  |none =>
   rw[hi]at ih;simp only at ih ⊢;have hp:∀m∈ns,0<m:=fun m hm=>by
    obtain⟨i,hi,rfl⟩:=Gi hm;have:=AP h.2 i hi;omega
   by_cases hd:d+1<n
   ·simp only[hd,if_true]
    refine⟨⟨hd,by rw[hl];exact UB hp⟩,?_⟩
    simp only[rk,UA];rw[oI];omega
   ·simp only[hd,if_false]
    have:n=d+1:=by have:=h.1;omega
    subst this;simp only[rk,sw];rw[oI];omega
 |[],_::_,h=>h.elim
 |_::_,[],h=>h.elim
theorem UC:∀{ns a:List Nat},Vd ns a→(∀j,j<ns.length→nth a j+1=nth ns j)→inc ns a=none
 |[],[],_,_=>rfl
 |n::ns,d::a,h,hm=>by
  have ih:=UC h.2 fun j hj=>hm (j+1) (by simpa using hj)
  have h0:=hm 0 (by simp)
  simp only[inc,ih];have:¬d+1<n:=by simp[nth]at h0;omega
  simp[this]
 |[],_::_,h,_=>h.elim
 |_::_,[],h,_=>h.elim
theorem afg:∀{ns a:List Nat} {i:Nat},Vd ns a→i<ns.length→(∀j,i<j→j<ns.length→nth a j+1=nth ns j)→nth a i+1<nth ns i →
  inc ns a=some (a.take i++(nth a i+1)::List.replicate (ns.length-1-i) 0)
 |n::ns,d::a,0,h,_,hm,bI=>by
  have ih:=UC h.2 fun j hj=>hm (j+1) (by omega) (by simpa using hj)
  have hl:=Gl h.2;have:d+1<n:=by simpa [nth] using bI
  simp only[inc,ih,this,if_true];simp[nth,hl]
 |n::ns,d::a,i+1,h,hi,hm,bI=>by
  have qP:i<ns.length:=by simpa using hi
  have ih:=afg h.2 qP (fun j h1 h2=>hm (j+1) (by omega) (by simpa using h2)) bI
  simp only[inc,ih];simp[nth];omega
 |[],[],_,_,hi,_,_=>by simp at hi
 |[],_::_,_,h,_,_,_=>h.elim
 |_::_,[],_,h,_,_,_=>h.elim
def eF(R:List (List Int))(a:List Nat):List Int:=List.zipWith (fun o k=>nth o k) R a
def JK:List (List Int)→List Int→Prop
 |[],[]=>True
 |o::R,q::F=>q∈o∧JK R F
 |_,_=>False
theorem UD:∀{R:List (List Int)} {a:List Nat},Vd (R.map List.length) a→JK R (eF R a)
 |[],[],_=>trivial
 |o::R,d::a,h=>⟨oo h.1,UD h.2⟩
 |[],_::_,h=>h.elim
 |_::_,[],h=>h.elim
theorem UE:∀{R:List (List Int)} {F:List Int},JK R F→∃a,Vd (R.map List.length) a∧eF R a=F
 |[],[],_=>⟨[],trivial,rfl⟩
 |o::R,q::F,h=>by
  obtain⟨a,h1,h2⟩:=UE h.2;obtain⟨d,h3,h4⟩:=Gi h.1;exact⟨d::a,⟨h3,h1⟩,by simp only[eF,List.zipWith_cons_cons]at h2 ⊢;rw[h2,h4]⟩
 |[],_::_,h=>h.elim
 |_::_,[],h=>h.elim
noncomputable def oq(us:List Un)(ss:List Us)(g:Int):List (List Int):=List.zipWith (fun u s=>u9 u s g) us ss
theorem JL{g:Int}:∀{us:List Un} {ss:List Us} {F:List Int},us.length=ss.length→(JK (oq us ss g) F↔ny g us ss F)
 |[],[],[],_=>Iff.rfl
 |[],[],_::_,_=>Iff.rfl
 |[],_::_,_,h=>by simp at h
 |_::_,[],_,h=>by simp at h
 |_::_,_::_,[],_=>Iff.rfl
 |u::us,s::ss,q::F,h=>by
  have ih:=JL (g:=g) (us:=us) (ss:=ss) (F:=F) (by simpa using h)
  show(q∈u9 u s g∧JK (oq us ss g) F)↔(q∈sn u s g∧ny g us ss F);rw[afd,ih]
theorem ats{u:Un}{s:Us}{g:Int}(hv:fB u s):0<(u9 u s g).length:=by
 have:s.cu∈u9 u s g:=by
  rw[afd,Gk];refine⟨.inr (.inr rfl),hv,?_⟩;obtain⟨hc,h1,h2⟩:=hv;unfold kU;split
  ·rename_i h;rw[h];intro h3;omega
  ·rename_i h
   rcases h2 with h2 | ⟨h2,h3⟩
   ·exact absurd h2 h
   ·exact⟨h2,fun h4=>h h4.1,h3⟩
 exact List.length_pos_of_mem this
def Kn(us:List Un)(ss:List Us)(R:List (List Int))(release:Int)(r:Nat):Option (List Int)→Prop
 |none=>∀b,Vd (R.map List.length) b→rk (R.map List.length) b<r→release<(eF R b).sum
 |some F=>(∃b,Vd (R.map List.length) b∧eF R b=F∧F.sum≤release) ∧
   ∀b,Vd (R.map List.length) b→rk (R.map List.length) b<r→(eF R b).sum≤release→¬kV (js us (eF R b),jt ss (eF R b)) (js us F,jt ss F) (eF R b) F
noncomputable def wm(us:List Un)(ss:List Us)(release:Int)(P:List Int):Option (List Int)→Option (List Int)
 |none=>if P.sum≤release then some P else none
 |some F=>if P.sum≤release then (if kV (js us P,jt ss P) (js us F,jt ss F) P F then some P else some F) else some F
theorem att{us:List Un}{ss:List Us}{R:List (List Int)}{release:Int}{a:List Nat}(ha:Vd (R.map List.length) a){best:Option (List Int)}(h:Kn us ss R release (rk (R.map List.length) a) best) :
  Kn us ss R release (rk (R.map List.length) a+1) (wm us ss release (eF R a) best):=by
 have split:∀b,Vd (R.map List.length) b→rk (R.map List.length) b<rk (R.map List.length) a+1→rk (R.map List.length) b<rk (R.map List.length) a∨b=a:=fun b hb bI=>by
  rcases cM (rk (R.map List.length) b) (rk (R.map List.length) a) with h1|h1
  ·exact .inl h1
  ·exact .inr (afe hb ha (by omega))
 cases best with
 |none =>
  unfold wm;by_cases hs:(eF R a).sum≤release
  ·simp only[hs,if_true]
   refine⟨⟨a,ha,rfl,hs⟩,fun b hb bI xJ=>?_⟩;rcases split b hb bI with h1|rfl
   ·have:=h b hb h1;omega
   ·exact afc
  ·simp only[hs,if_false]
   intro b hb bI;rcases split b hb bI with h1|rfl
   ·exact h b hb h1
   ·omega
 |some F =>
  obtain⟨h1,h2⟩:=h;unfold wm;by_cases hs:(eF R a).sum≤release
  ·simp only[hs,if_true]
   by_cases hb:kV (js us (eF R a),jt ss (eF R a)) (js us F,jt ss F) (eF R a) F
   ·simp only[hb,if_true]
    refine⟨⟨a,ha,rfl,hs⟩,fun b oR bI xJ=>?_⟩;rcases split b oR bI with h3|rfl
    ·exact fun h4=>h2 b oR h3 xJ (atl h4 hb)
    ·exact afc
   ·simp only[hb,if_false]
    refine⟨h1,fun b oR bI xJ=>?_⟩;rcases split b oR bI with h3|rfl
    ·exact h2 b oR h3 xJ
    ·exact hb
  ·simp only[hs,if_false]
   refine⟨h1,fun b oR bI xJ=>?_⟩;rcases split b oR bI with h3|rfl
   ·exact h2 b oR h3 xJ
   ·omega
theorem afh{us:List Un}{ss:List Us}{g release:Int}(hl:us.length=ss.length){best:Option (List Int)}(h:Kn us ss (oq us ss g) release (sw ((oq us ss g).map List.length)) best) :
  match best with
  |none=>∀F,ny g us ss F→release<F.sum
  |some F=>D9 g us ss release F:=by
 cases best with
 |none =>
  intro F hF;obtain⟨b,hb,rfl⟩:=UE ((JL hl).2 hF);exact h b hb (Gm hb)
 |some F =>
  obtain⟨⟨b,hb,e,hs⟩,h2⟩:=h;refine⟨?_,hs,fun E hE hEs=>?_⟩
  ·rw[←e];exact(JL hl).1 (UD hb)
  ·obtain⟨c,hc,rfl⟩:=UE ((JL hl).2 hE)
   exact h2 c hc (Gm hc) hEs
end Go.Proofs.YtcelmhaoipbdiaaGreat
