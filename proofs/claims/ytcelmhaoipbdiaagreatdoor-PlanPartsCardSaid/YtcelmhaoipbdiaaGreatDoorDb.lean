/- Parts of the proof, joined: Dsp1, Dsp2, Dsp3, Dsp4, Dsp5, Dsp6, Dsp7, Dsp8, Ord1, Ref1, Ref2. -/
import Derived.Test.YtcelmhaoipbdiaaGreatDoorDa
namespace Go.Proofs.YtcelmhaoipbdiaaGreatDoor
set_option linter.all false
open Go.Vm
attribute [local simp] mK mL lN mJ
theorem rj{α:Type}[Inhabited α]{l:List α}{i:Nat}(h:i<l.length):l.drop i=nth l i::l.drop (i+1):=by
 rw[Iv h];simp[nth,List.getD,h]
def gm:List Int→List Int→Int
 |[],[]=>0
 |[],_::_ => -1
 |_::_,[]=>1
 |a::p,b::q=>if a<b then -1 else if b<a then 1 else gm p q
theorem Rj(a:Int)(G:List aT):bd F 221 [i64 a] G=some (.bool false,G) :=
 bX rfl rfl (by simp[wrap64,Z8])
theorem Rn(a b:Int)(G:List aT):bd F 213 [i64 a,i64 b] G=some (i64 (if a<b then -1 else if b<a then 1 else 0),G) :=
 bX rfl rfl (by
  by_cases h1:a<b
  ·simp[wrap64,KU,Rj,h1]
  ·by_cases h2:b<a
   ·simp[wrap64,KU,Rj,h1,h2]
   ·simp[wrap64,KU,Rj,h1,h2])
theorem aml(p q:List Int)(hp:p.length≤4294967296)(G:List aT):bd F 254 [ints p,ints q] G=some (i64 (gm p q),G) :=
 bX rfl rfl (by
  generalize hW:gm p q=W;simp (disch:=omega) [-getElem?_pos,wrap64,ZK];refine go_loop (fun i:Nat=>alG (ints p) (ints q) (ints p) p.length i G) (fun i=>i≤p.length∧i≤q.length∧gm (p.drop i) (q.drop i)=W) (fun i=>p.length-i) 0 rfl (by simp) ⟨by omega,by omega,by simpa using hW⟩ ?_
  rintro i ⟨h1,h2,h3⟩;simp (disch:=omega) [-getElem?_pos,wrap64,ZJ];refine bS (fun h4=>?_) (fun h4=>?_)
  ·have h4:i<p.length:=by omega
   rw[rj h4]at h3;by_cases h5:i<q.length
   ·rw[rj h5,gm]at h3
    have h6:¬q.length≤i:=by omega
    by_cases h7:nth p i<nth q i
    ·rw[aP h7]at h3
     simp (disch:=omega) [-getElem?_pos,wrap64,dV,Rn,h6,h7];exact h3
    ·rw[aA h7]at h3
     by_cases h8:nth q i<nth p i
     ·rw[aP h8]at h3
      simp (disch:=omega) [-getElem?_pos,wrap64,dV,Rn,h6,h7,h8];exact h3
     ·rw[aA h8]at h3
      simp (disch:=omega) [-getElem?_pos,wrap64,dV,Rn,h6,h7,h8];exact bV (i+1) (by simp) ⟨by omega,by omega,h3⟩ (by omega)
   ·obtain rfl:i=q.length:=by omega
    rw[zB,gm]at h3;simp (disch:=omega) [-getElem?_pos,wrap64,dV];exact h3
  ·obtain rfl:i=p.length:=by omega
   rw[zB]at h3;refine bS (fun h5=>?_) (fun h5=>?_)
   ·have h6:p.length<q.length:=by omega
    rw[rj h6,gm]at h3;exact h3
   ·obtain h6:q.drop p.length=[]:=Sz.2 (by omega)
    rw[h6,gm]at h3;exact h3)
abbrev KQ(a:Int×Int):V:=.agg [i64 a.1,i64 a.2]
def jP(a b:Int×Int)(p q:List Int):Prop:=if a.1≠b.1 then b.1<a.1 else if a.2≠b.2 then a.2<b.2 else gm p q<0
instance {a b:Int×Int} {p q:List Int}:Decidable (jP a b p q):=by unfold jP;infer_instance
theorem amm(a b:Int×Int)(p q:List Int)(hp:p.length≤4294967296)(G:List aT):bd F 247 [KQ a,KQ b,ints p,ints q] G=some (.bool (decide (jP a b p q)),G) :=
 bX rfl rfl (by
  generalize hW:decide (jP a b p q)=W;simp only[jP]at hW;obtain⟨a1,a2⟩:=a;obtain⟨b1,b2⟩:=b;simp only at hW;by_cases h1:a1=b1
  ·by_cases h2:a2=b2
   ·simp[wrap64,KE,aml p q hp,h1,h2]
    simpa [h1,h2] using hW
   ·simp[wrap64,KE,h1,h2]
    simpa [h1,h2] using hW
  ·simp[wrap64,KE,h1]
   simpa [h1] using hW)
theorem amn(p q:List Int)(hp:p.length≤4294967296)(G:List aT):bd F 209 [ints p,ints q] G=some (.bool (decide (gm p q<0)),G) :=
 bX rfl rfl (by
  generalize hW:gm p q=W;simp (disch:=omega) [-getElem?_pos,wrap64,Y8];refine go_loop (fun i:Nat=>akZ (ints p) (ints q) p.length i G) (fun i=>i≤p.length∧i≤q.length∧gm (p.drop i) (q.drop i)=W) (fun i=>p.length-i) 0 rfl (by simp) ⟨by omega,by omega,by simpa using hW⟩ ?_
  rintro i ⟨h1,h2,h3⟩;simp (disch:=omega) [-getElem?_pos,wrap64,Y7];refine bS (fun h4=>?_) (fun h4=>?_)
  ·have h4:i<p.length:=by omega
   rw[rj h4]at h3;by_cases h5:i<q.length
   ·rw[rj h5,gm]at h3
    have h6:¬q.length≤i:=by omega
    by_cases h7:nth p i<nth q i
    ·rw[aP h7]at h3
     have h9:¬nth p i=nth q i:=by omega
     subst h3;simp (disch:=omega) [-getElem?_pos,wrap64,dV,h6,h7,h9,h5]
    ·rw[aA h7]at h3
     by_cases h8:nth q i<nth p i
     ·rw[aP h8]at h3
      have h9:¬nth p i=nth q i:=by omega
      subst h3;simp (disch:=omega) [-getElem?_pos,wrap64,dV,h6,h7,h9,h5]
     ·rw[aA h8]at h3
      have h9:nth p i=nth q i:=by omega
      simp (disch:=omega) [-getElem?_pos,wrap64,dV,h6,h9,h5];exact bV (i+1) (by simp) ⟨by omega,by omega,h3⟩ (by omega)
   ·obtain rfl:i=q.length:=by omega
    rw[zB,gm]at h3;subst h3;simp (disch:=omega) [-getElem?_pos,wrap64,dV]
  ·obtain rfl:i=p.length:=by omega
   rw[zB]at h3;by_cases h6:p.length<q.length
   ·rw[rj h6,gm]at h3
    subst h3;simp[h6]
   ·have h7:q.drop p.length=[]:=Sz.2 (by omega)
    rw[h7,gm]at h3;subst h3;simp;omega)
theorem aad(a b:Int×Int)(p q:List Int)(hp:p.length≤4294967296)(G:List aT):bd F 181 [KQ a,KQ b,ints p,ints q] G=some (.bool (decide (jP a b p q)),G) :=
 bX rfl rfl (by
  generalize hW:decide (jP a b p q)=W;simp only[jP]at hW;obtain⟨a1,a2⟩:=a;obtain⟨b1,b2⟩:=b;simp only at hW;by_cases h1:a1=b1
  ·by_cases h2:a2=b2
   ·simp[wrap64,Ky,amn p q hp,h1,h2]
    simpa [h1,h2] using hW
   ·simp[wrap64,Ky,h1,h2]
    simpa [h1,h2] using hW
  ·simp[wrap64,Ky,h1]
   simpa [h1] using hW)
def jG(u:Un)(s:Us)(q:Int):Prop:=e7 u s∧jN u s q
noncomputable instance {u:Un} {s:Us} {q:Int}:Decidable (jG u s q):=by unfold jG;infer_instance
def iC(s:Us)(q:Int):Int:=if 0<q∧s.cg=0 then 1 else 0
noncomputable def yF:List Un→List Us→List Int→Int×Int×Int→Option (Int×Int×Int)
 |u::us,s::ss,f::fs,a=>if jG u s f then yF us ss fs (a.1+f,a.2.1+pow u f,a.2.2+iC s f) else none
 |_,_,_,a=>some a
noncomputable def B2(us:List Un)(ss:List Us)(fs:List Int):Option (Int×Int×Int):=if us.length=ss.length∧us.length=fs.length then yF us ss fs (0,0,0) else none
def D3:Option (Int×Int×Int)→V
 |some (a,b,c)=>.tuple [i64 a,i64 b,i64 c,.bool true]
 |none=>.tuple [i64 0,i64 0,i64 0,.bool false]
theorem KR{u:Un}{s:Us}{q:Int}(h:jG u s q):0≤q∧q≤1073741824:=by
 obtain⟨⟨hc,_⟩,h2⟩:=h;have hu:=pS hc;have:=hu.least;have:=hu.Qm;unfold jN at h2;split at h2
 ·omega
 ·have a:=h2.2.2.1
  have b:=h2.2.2.2.1;omega
theorem KS{u:Un}{q:Int}:0≤pow u q∧pow u q≤1073741824:=by
 unfold pow;split
 ·rename_i h
  have hu:=pS h.1;have hp:=hu.cv.pos;have a:=D0 hu.cv q;have b:=hu.top;have c:=(hu.cv.y0 0 (by omega)).1
  omega
 ·omega
theorem QB{s:Us}{q:Int}:0≤iC s q∧iC s q≤1:=by unfold iC;split<;>omega
theorem aae(us:List Un)(ss:List Us)(fs:List Int)(hn:us.length≤1000)(G:List aT):bd F 145 [kc us,jO ss,ints fs] G=some (D3 (B2 us ss fs),G) :=
 bX rfl rfl (by
  generalize hW:D3 (B2 us ss fs)=W;unfold B2 at hW;by_cases h1:us.length=ss.length
  ·by_cases h2:us.length=fs.length
   ·rw[aP ⟨h1,h2⟩]at hW
    simp +contextual (disch:=omega) [-getElem?_pos,wrap64,Ks,← h1,← h2];refine go_loop (fun x:Nat×Int×Int×Int=>aj0 (jO ss) (ints fs) x.2.1 x.2.2.1 x.2.2.2 (kc us) us.length x.1 G)
     (fun x=>x.1≤us.length∧D3 (yF (us.drop x.1) (ss.drop x.1) (fs.drop x.1) (x.2.1,x.2.2.1,x.2.2.2))=W∧(0≤x.2.1∧x.2.1≤1073741824*(x.1:Int))∧(0≤x.2.2.1∧x.2.2.1≤1073741824*(x.1:Int))∧0≤x.2.2.2∧x.2.2.2≤x.1) (fun x=>us.length-x.1) (0,0,0,0) rfl (by simp) (by simpa using hW) ?_
    rintro⟨i,a,b,c⟩ ⟨hi,hq,ha,hb,hc⟩;simp only at hi hq ha hb hc;simp +contextual (disch:=omega) [-getElem?_pos,wrap64,Yg];refine bS (fun h4=>?_) (fun h4=>?_)
    ·have h4:i<us.length:=by omega
     have h5:i<ss.length:=by omega
     have h6:i<fs.length:=by omega
     rw[rj h4,rj h5,rj h6,yF]at hq;by_cases h7:jG (nth us i) (nth ss i) (nth fs i)
     ·rw[aP h7]at hq
      have r1:=KR h7;have r2:=KS (u:=nth us i) (q:=nth fs i);have r3:=QB (s:=nth ss i) (q:=nth fs i);have h8:decide (e7 (nth us i) (nth ss i)∧jN (nth us i) (nth ss i) (nth fs i))=true:=fL h7;simp only at hq;have QC:i+1≤us.length∧D3 (yF (us.drop (i+1)) (ss.drop (i+1)) (fs.drop (i+1)) (a+nth fs i,b+pow (nth us i) (nth fs i),c+iC (nth ss i) (nth fs i)))=W ∧
        (0≤a+nth fs i∧a+nth fs i≤1073741824*((i+1:Nat):Int))∧(0≤b+pow (nth us i) (nth fs i)∧b+pow (nth us i) (nth fs i)≤1073741824*((i+1:Nat):Int))∧0≤c+iC (nth ss i) (nth fs i)∧c+iC (nth ss i) (nth fs i)≤(i+1:Nat) :=
       ⟨by omega,hq,by omega,by omega,by omega⟩
      have hN:=Qr (nth us i) (nth ss i) (nth fs i) [];have e:sG (nth us i) (nth ss i) (nth fs i)=0:=by
       obtain⟨⟨q1,q2⟩,q3⟩:=h7;simp[sG,q1,q3,show e7 (nth us i) (nth ss i) from⟨q1,q2⟩]
      simp only[e,if_true]at hN;by_cases h9:0<nth fs i
      ·by_cases fT:(nth ss i).cg=0
       ·have kL:iC (nth ss i) (nth fs i)=1:=by simp[iC,h9,fT]
        simp +contextual (disch:=omega) [-getElem?_pos,wrap64,bg (l:=us),bg (l:=ss),dV,hN,Qq,h9];simp +contextual (disch:=omega) [-getElem?_pos,wrap64,fT];exact bV (i+1,a+nth fs i,b+pow (nth us i) (nth fs i),c+iC (nth ss i) (nth fs i)) (by simp[kL]) QC (by simp;omega)
       ·have kL:iC (nth ss i) (nth fs i)=0:=by simp[iC,fT]
        simp +contextual (disch:=omega) [-getElem?_pos,wrap64,bg (l:=us),bg (l:=ss),dV,hN,Qq,h9];simp +contextual (disch:=omega) [-getElem?_pos,wrap64,fT];exact bV (i+1,a+nth fs i,b+pow (nth us i) (nth fs i),c+iC (nth ss i) (nth fs i)) (by simp[kL]) QC (by simp;omega)
      ·have kL:iC (nth ss i) (nth fs i)=0:=by simp[iC,h9]
       simp +contextual (disch:=omega) [-getElem?_pos,wrap64,bg (l:=us),bg (l:=ss),dV,hN,Qq,h9];exact bV (i+1,a+nth fs i,b+pow (nth us i) (nth fs i),c+iC (nth ss i) (nth fs i)) (by simp[kL]) QC (by simp;omega)
     ·rw[aA h7]at hq
      have hN:=Qr (nth us i) (nth ss i) (nth fs i) [];have e:¬sG (nth us i) (nth ss i) (nth fs i)=0:=fun e=>by
       unfold sG at e;split at e
       ·contradiction
       ·split at e
        ·cases e
        ·split at e
         ·cases e
         ·rename_i a1 a2 a3
          exact h7 ⟨gW a2,gW a3⟩
      simp only[e,if_false]at hN;simp +contextual (disch:=omega) [-getElem?_pos,wrap64,bg (l:=us),bg (l:=ss),dV,hN,e];exact hq
    ·obtain rfl:i=us.length:=by omega
     rw[zB,yF]at hq
     ·exact hq
     ·intro u m6 s ss' f fs' e;cases e
   ·rw[aA (fun h=>h2 h.2)]at hW
    have h3:¬ss.length=fs.length:=by omega
    simp +contextual (disch:=omega) [-getElem?_pos,wrap64,Ks,h1];refine gT (fun h=>?_) (fun h=>?_)
    ·exact hW
    ·simp[-List.length_eq_zero_iff,-Int.natCast_eq_zero]at h
     omega
  ·rw[aA (fun h=>h1 h.1)]at hW
   simp +contextual (disch:=omega) [-getElem?_pos,wrap64,Ks];refine gT (fun h=>?_) (fun h=>?_)
   ·exact hW
   ·simp[-List.length_eq_zero_iff,-Int.natCast_eq_zero]at h
    omega)
noncomputable def qo(u:Un)(s:Us)(g:Int):List Int:=(dedup (nz (fe u g++[0,s.cg]))).filter fun q=>decide (jG u s q)
noncomputable abbrev KT(u:Un)(s:Us)(q:Int):List V:=[i64 q,i64 (pow u q),i64 (iC s q)]
theorem jQ{α:Type}[Inhabited α]{l:List α}{i:Nat}(h:i<l.length):l.take (i+1)=l.take i++[nth l i]:=by
 rw[SP,bg h];rfl
theorem qp{α:Type}[Inhabited α]{l m:List α}{i:Nat}(h:i<l.length):nth (l++m) i=nth l i:=by
 simp[nth,pj,h]
theorem aaf{u:Un}{s:Us}{L Z:List Int}{G:List aT}{K:cB}(hL:L.length≤4294967296)
  (hK:∀z,K (.exit 0) ⟨[(3,.bG 3 0),(4,.bG 4 0),(10,.slice (some 1061) 3 ((L.filter fun q=>decide (jG u s q)).map (KT u s))),(30,.bP 20026 1 L.length),(31,i64 L.length),(32,i64 L.length),(33,z)],[(3,u.row),(4,s.row),(20026,dN (L++Z))],[(1061,(L.filter fun q=>decide (jG u s q)).length)],G⟩) :
  go (bd F) ZI ⟨[(3,.bG 3 0),(4,.bG 4 0),(10,.b9),(30,.bP 20026 1 L.length),(31,i64 L.length),(32,i64 0)],[(3,u.row),(4,s.row),(20026,dN (L++Z))],[],G⟩ K:=by
 refine go_loop (fun i:Nat=>alC (.slice (some 1061) 3 (((L.take i).filter fun q=>decide (jG u s q)).map (KT u s))) L.length L.length i u.row s.row (dN (L++Z)) ((L.take i).filter fun q=>decide (jG u s q)).length G) (fun i=>i≤L.length) (fun i=>L.length-i) 0 rfl (by simp) (by omega) ?_
 intro i hi;have hlen:((L.take i).filter fun q=>decide (jG u s q)).length≤i:=jT (CH _ _) (by simp;omega)
 simp (disch:=omega) [wrap64,ZH];refine bS (fun h1=>?_) (fun h1=>?_)
 ·have h1:i<L.length:=by omega
  have h2:i<(L++Z).length:=by simp;omega
  have hM:=ama u s (nth L i) [];by_cases h3:jG u s (nth L i)
  ·have h4:decide (e7 u s∧jN u s (nth L i))=true:=fL h3
   rw[h4]at hM;have h5:(L.take (i+1)).filter (fun q=>decide (jG u s q))=(L.take i).filter (fun q=>decide (jG u s q))++[nth L i]:=by
    rw[jQ h1,AS];simp[h3]
   by_cases h6:0<nth L i
   ·by_cases h7:s.cg=0
    ·have h8:iC s (nth L i)=1:=by simp[iC,h6,h7]
     simp (disch:=omega) [wrap64,lx h2,qp h1,hM,Ho,h6];simp (disch:=omega) [wrap64,h7];exact bV (i+1) (by rw[h5];simp[h8]) (by omega) (by omega)
    ·have h8:iC s (nth L i)=0:=by simp[iC,h7]
     simp (disch:=omega) [wrap64,lx h2,qp h1,hM,Ho,h6];simp (disch:=omega) [wrap64,h7];exact bV (i+1) (by rw[h5];simp[h8]) (by omega) (by omega)
   ·have h8:iC s (nth L i)=0:=by simp[iC,h6]
    simp (disch:=omega) [wrap64,lx h2,qp h1,hM,Ho,h6];exact bV (i+1) (by rw[h5];simp[h8]) (by omega) (by omega)
  ·have h4:decide (e7 u s∧jN u s (nth L i))=false:=decide_eq_false h3
   rw[h4]at hM;have h5:(L.take (i+1)).filter (fun q=>decide (jG u s q))=(L.take i).filter (fun q=>decide (jG u s q)):=by
    rw[jQ h1,AS];simp[h3]
   simp (disch:=omega) [wrap64,lx h2,qp h1,hM];exact bV (i+1) (by rw[h5];simp) (by omega) (by omega)
 ·obtain rfl:i=L.length:=by omega
  rw[pq];exact hK _
theorem amo{u:Un}{s:Us}(hv:e7 u s){g:Int}(hg:1≤g∧g≤1073741824)(G:List aT):bd F 253 [un u,us s,i64 g] G =
  some (if gC u g=0 then .tuple [.slice (some 0) 3 ((qo u s g).map (KT u s)),.bool true] else .tuple [.slice (some 0) 3 [],.bool false],G) :=
 bX rfl rfl (by
  by_cases he:gC u g=0
  ·have hlen:(fe u g).length≤200:=by
    unfold gC at he;split at he
    ·contradiction
    ·split at he
     ·cases he
     ·split at he
      ·cases he
      ·omega
   have hf:nL u g=fe u g:=by simp[nL,he]
   have hd:=DM (nz (fe u g++[0,s.cg]));have hs:=(An (fe u g++[0,s.cg])).length_eq;simp at hs;have hm:ua 1 (nz (fe u g++[0,s.cg]))=dedup (nz (fe u g++[0,s.cg]))++List.replicate ((nz (fe u g++[0,s.cg])).length-(dedup (nz (fe u g++[0,s.cg]))).length) 0:=rfl;have GG:∀l,ua 0 l=nz l:=fun _=>rfl;have hc:(qo u s g)=(dedup (nz (fe u g++[0,s.cg]))).filter fun q=>decide (jG u s q):=rfl;rw[aP he,hc];have ha:∀l:List Int,dN l++[i64 0,i64 s.cg]=dN (l++[0,s.cg]):=fun l=>by simp[dN]
   have hz:[i64 0,i64 s.cg]=dN [0,s.cg]:=rfl;have pF:(fe u g).length+2=(fe u g++[0,s.cg]).length:=by simp
   have By:(nz (fe u g++[0,s.cg])).length=(fe u g++[0,s.cg]).length:=(An _).length_eq;by_cases hn:fe u g=[]
   ·rw[hn]at hm hd hs hf By ⊢
    simp only[CI]at hm hd hs By ⊢;have e1:jW 20026 0 (.tuple [own [],i64 0])=some (.tuple [.dX 1,i64 0],none):=rfl;have h2:2=(nz [0,s.cg]).length:=by rw[By];rfl
    simp (disch:=omega) [wrap64,KF,Qw,he,hf,e1,hz,J5 (zs:=[0,s.cg]) (n:=2) rfl (by omega),GG,J5 h2 (by omega),hm]
    refine aaf (u:=u) (s:=s) (L:=dedup (nz [0,s.cg])) (by omega) fun z=>?_
    simp (disch:=omega) [wrap64,wrap64]
   ·have e1:=agW (id:=20026) (t:=0) (e:=0) hn
    rw[←pF]at By;simp (disch:=omega) [wrap64,KF,Qw,he,hf,e1,ha,J5 pF (by omega),GG,J5 By.symm (by omega),hm]
    refine aaf (u:=u) (s:=s) (L:=dedup (nz (fe u g++[0,s.cg]))) (by omega) fun z=>?_
    simp (disch:=omega) [wrap64,wrap64]
  ·rw[aA he]
   have hf:nL u g=[]:=by simp[nL,he]
   have e1:jW 20026 0 (.tuple [own [],i64 (gC u g)])=some (.tuple [.dX 1,i64 (gC u g)],none):=rfl;simp (disch:=omega) [wrap64,KF,Qw,he,hf,e1])
def B3(us:List Un)(ss:List Us):Prop:=∀i,i<us.length→e7 (nth us i) (nth ss i)
noncomputable instance {us:List Un} {ss:List Us}:Decidable (B3 us ss):=Classical.propDecidable _
def B4(us:List Un)(g:Int):Prop:=∀i,i<us.length→gC (nth us i) g=0
noncomputable instance {us:List Un} {g:Int}:Decidable (B4 us g):=Classical.propDecidable _
noncomputable def qq(us:List Un)(ss:List Us)(g release:Int):Int :=
 if 6<us.length then 10 else if us.length≠ss.length then 3 else if ¬B3 us ss then 3
 else if g<1∨1073741824<g∨release<0∨1073741824<release then 1 else if 200*g<release then 10 else if ¬B4 us g then 10 else 0
noncomputable abbrev Ht(g:Int)(u:Un)(s:Us):List V:=[.slice none 3 ((qo u s g).map (KT u s))]
theorem yG{α β γ:Type}[Inhabited α][Inhabited β]{f:α→β→γ}{a:List α}{b:List β}{i:Nat}(h1:i<a.length)(h2:i<b.length) :
  List.zipWith f (a.take (i+1)) (b.take (i+1))=List.zipWith f (a.take i) (b.take i)++[f (nth a i) (nth b i)]:=by
 rw[jQ h1,jQ h2,List.zipWith_append (by simp;omega)]
 rfl
theorem amp(us:List Un)(ss:List Us)(g release:Int)(G:List aT):bd F 245 [kc us,jO ss,i64 g,i64 release] G =
  some (.tuple [.slice (some 0) 1 (if qq us ss g release=0 then List.zipWith (Ht g) us ss else []),i64 (qq us ss g release)],G) :=
 bX rfl rfl (by
  generalize hE:qq us ss g release=E;generalize hW:V.tuple [.slice (some 0) 1 (if E=0 then List.zipWith (Ht g) us ss else []),i64 E]=W
  unfold qq at hE;simp +contextual (disch:=omega) [-getElem?_pos,wrap64,ZA];refine bS (fun h1=>?_) (fun h1=>gT (fun h2=>?_) (fun h2=>?_))
  ·rw[aP (by omega)]at hE
   subst hE;exact hW
  ·simp[-List.length_eq_zero_iff,-Int.natCast_eq_zero]at h2
   rw[aA (by omega),aP (by omega)]at hE
   subst hE;exact hW
  ·simp[-List.length_eq_zero_iff,-Int.natCast_eq_zero]at h2
   have hl:us.length=ss.length:=by omega
   rw[aA (by omega),aA (by omega)]at hE
   refine go_loop (fun i:Nat=>alp (kc us) (jO ss) g release (kc us) us.length i G) (fun i=>i≤us.length∧∀j,j<i→e7 (nth us j) (nth ss j)) (fun i=>us.length-i) 0 rfl (by simp) ⟨by omega,by omega⟩ ?_
   rintro i ⟨hi,hv⟩;simp +contextual (disch:=omega) [-getElem?_pos,wrap64,Zy];refine bS (fun h3=>?_) (fun h3=>?_)
   ·have h3:i<us.length:=by omega
    by_cases h4:e7 (nth us i) (nth ss i)
    ·simp +contextual (disch:=omega) [-getElem?_pos,wrap64,bg (l:=us),bg (l:=ss),Ax,h4]
     refine bV (i+1) (by simp) ⟨by omega,fun j hj=>?_⟩ (by omega)
     rcases cF j i with h5|h5
     ·exact hv j h5
     ·rwa [show j=i by omega]
    ·rw[aP (fun h=>h4 (h i h3))]at hE
     subst hE;simp +contextual (disch:=omega) [-getElem?_pos,wrap64,bg (l:=us),bg (l:=ss),Ax,h4];exact hW
   ·obtain rfl:i=us.length:=by omega
    rw[aA (fun h=>h hv)]at hE;by_cases h5:g<1∨1073741824<g
    ·rw[aP (by omega)]at hE
     subst hE;have h6:(decide (g<1) || decide (1073741824<g))=true:=by simpa using h5
     simp +contextual (disch:=omega) [-getElem?_pos,wrap64,dD,h6];exact hW
    ·have h6:(decide (g<1) || decide (1073741824<g))=false:=by simpa using h5
     by_cases h7:release<0∨1073741824<release
     ·rw[aP (by omega)]at hE
      subst hE;have h8:(!decide (0≤release) || !decide (release≤1073741824))=true:=by simp;omega
      simp +contextual (disch:=omega) [-getElem?_pos,wrap64,dD,h6,h8];exact hW
     ·rw[aA (by omega)]at hE
      have h8:(!decide (0≤release) || !decide (release≤1073741824))=false:=by simp;omega
      simp +contextual (disch:=omega) [-getElem?_pos,wrap64,dD,h6,h8];refine bS (fun h9=>?_) (fun h9=>?_)
      ·rw[aP h9]at hE
       subst hE;exact hW
      ·rw[aA h9]at hE
       refine go_loop (fun i:Nat=>alr (jO ss) g (.slice (some 1079) 1 (List.zipWith (Ht g) (us.take i) (ss.take i))) (kc us) us.length i i G)
        (fun i=>i≤us.length∧∀j,j<i→gC (nth us j) g=0) (fun i=>us.length-i) 0 rfl (by simp) ⟨by omega,by omega⟩ ?_
       rintro i ⟨hi,hf⟩;simp +contextual (disch:=omega) [-getElem?_pos,wrap64,Zz];refine bS (fun h3=>?_) (fun h3=>?_)
       ·have h3:i<us.length:=by omega
        have fT:i<ss.length:=by omega
        have hC:=amo (hv i h3) (g:=g) (by omega) []
        by_cases h4:gC (nth us i) g=0
        ·rw[aP h4]at hC
         simp +contextual (disch:=omega) [-getElem?_pos,wrap64,bg (l:=us),bg (l:=ss),hC];refine bV (i+1) ?_ ⟨by omega,fun j hj=>?_⟩ (by omega)
         ·rw[yG h3 fT];simp
         rcases cF j i with h5|h5
         ·exact hf j h5
         ·rwa [show j=i by omega]
        ·rw[aA h4]at hC
         rw[aP (fun h=>h4 (h i h3))]at hE;subst hE;simp +contextual (disch:=omega) [-getElem?_pos,wrap64,bg (l:=us),bg (l:=ss),hC];exact hW
       ·obtain rfl:i=us.length:=by omega
        rw[aA (fun h=>h hf)]at hE;subst hE;rw[pq,kG (by omega)]
        simp[←hW,hl])
structure Ch where
 cg:Int
 jr:Int
 js:Int
 deriving Inhabited
abbrev Ch.row(c:Ch):List V:=[i64 c.cg,i64 c.jr,i64 c.js]
abbrev QD(l:List Ch):List V:=[.slice none 3 (l.map Ch.row)]
abbrev Part:=Option (Int×Int×Int)
def iZ:Part→List V
 |none=>[.bool false,i64 0,i64 0,i64 0]
 |some (p,s,f)=>[.bool true,i64 p,i64 s,i64 f]
@[simp] theorem av6{p:Part}{d:Nat}:((iZ p).all fun v => !v.cA d)=true:=by
 cases p with
 |none=>rfl
 |some q=>rfl
abbrev mg(p:Part):V:=.agg (iZ p)
def cU(rest:Int→Part)(left:Int)(c:Ch)(out:Part):Part:=match rest (left-c.cg) with
 |none=>out
 |some (p,s,_)=>match out with
  |none=>some (p+c.jr,s+c.js,c.cg)
  |some (q,t,f)=>if jP (p+c.jr,s+c.js) (q,t) [] [] then some (p+c.jr,s+c.js,c.cg) else some (q,t,f)
def pT(rest:Int→Part)(left:Int):List Ch→Part→Part
 |[],out=>out
 |c::cs,out=>if left<c.cg then out else pT rest left cs (cU rest left c out)
def jt:List (List Ch)→Int→Part
 |[],_=>some (0,0,0)
 |l::ls,left=>pT (jt ls) left l none
def mN:List (List Ch)→Int→Option (List Int)
 |[],_=>some []
 |l::ls,left=>match jt (l::ls) left with
  |none=>none
  |some (_,_,f)=>(mN ls (left-f)).map (f :: ·)
abbrev AD:=List ((Int×Int)×Part)
def rm(m:AD):List (V×V):=m.map fun e=>(.agg [i64 e.1.1,i64 e.1.2],mg e.2)
def xb(LL:List (List Ch))(m:AD):Prop:=∀e∈m,∃i:Nat,e.1.1=i∧e.2=jt (LL.drop i) e.1.2
def gl(n:Nat)(LL:List (List Ch))(m:AD):List aT:=[.cells [.slice none 1 (LL.map QD)],.map (rm m),.cells [.map 1],.cells [.fn n [.bI 0 0,.bI 2 0,.bI 3 0]]]
theorem QE{LL:List (List Ch)}{i:Nat}{left:Int}:∀{m:AD} {k:Nat},xb LL m →
  mA true [0,0] (.agg [i64 i,i64 left]) (rm m) k=some none∨∃j,mA true [0,0] (.agg [i64 i,i64 left]) (rm m) k=some (some (k+j,mg (jt (LL.drop i) left)))∧j<m.length
 |[],k,_=>.inl rfl
 |e::m,k,h=>by
  obtain⟨⟨a,b⟩,p⟩:=e;obtain⟨i',h1,h2⟩:=h ((a,b),p) (by simp)
  simp only at h1 h2;have h3:∀x∈m,∃i:Nat,x.1.1=i∧x.2=jt (LL.drop i) x.1.2:=fun x hx=>h x (by simp[hx])
  have step:mA true [0,0] (.agg [i64 i,i64 left]) (rm (((a,b),p)::m)) k=if (i:Int)=a∧left=b then some (some (k,mg p)) else mA true [0,0] (.agg [i64 i,i64 left]) (rm m) (k+1):=by
   show(match V.mz true [0,0] (.agg [i64 i,i64 left]) (.agg [i64 a,i64 b]) with|some true=>some (some (k,mg p))|some false=>mA true [0,0] (.agg [i64 i,i64 left]) (rm m) (k+1)|none=>none)=_
   have:V.mz true [0,0] (.agg [i64 i,i64 left]) (.agg [i64 a,i64 b])=some (decide ((i:Int)=a∧left=b)):=by
    simp[V.mz,eA,jU]<;>(by_cases q1:(i:Int)=a<;>by_cases q2:left=b<;>simp[q1,q2])
   rw[this];by_cases q:(i:Int)=a∧left=b
   ·simp[q]
   ·rw[decide_eq_false q,aA q]
  rw[step];split
  ·rename_i q
   refine .inr ⟨0,?_,by simp⟩
   have:i=i':=by omega
   subst this;rw[h2,← q.2];rfl
  ·rcases QE (k:=k+1) h3 with h4 | ⟨j,h4,h5⟩
   ·exact .inl h4
   ·exact .inr ⟨j+1,by rw[h4];simp;omega,by simp;omega⟩
structure Lb(LL:List (List Ch)):Prop where
 kb:LL.length≤6
 each:∀i,i<LL.length→(nth LL i).length≤1000
 cg:∀i j,i<LL.length→j<(nth LL i).length→0≤(nth (nth LL i) j).cg∧(nth (nth LL i) j).cg≤1073741824
 jr:∀i j,i<LL.length→j<(nth LL i).length→0≤(nth (nth LL i) j).jr∧(nth (nth LL i) j).jr≤1073741824
 js:∀i j,i<LL.length→j<(nth LL i).length→0≤(nth (nth LL i) j).js∧(nth (nth LL i) j).js≤1
def pb(k:Int):Part→Prop
 |none=>True
 |some (p,s,f)=>(0≤p∧p≤1073741824*k)∧(0≤s∧s≤k)∧0≤f
theorem aag{rest:Int→Part}{left k:Int}(hr:∀x,pb k (rest x)):∀{l:List Ch} {out:Part},pb (k+1) out →
  (∀c∈l,0≤c.cg∧(0≤c.jr∧c.jr≤1073741824)∧0≤c.js∧c.js≤1)→pb (k+1) (pT rest left l out)
 |[],out,h,_=>h
 |c::cs,out,h,hc=>by
  unfold pT;split
  ·exact h
  ·refine aag hr ?_ fun c hm=>hc c (by simp[hm])
   have h1:=hr (left-c.cg);obtain⟨c1,c2,c3⟩:=hc c (by simp)
   have ok:∀p s f,pb k (some (p,s,f))→pb (k+1) (some (p+c.jr,s+c.js,c.cg)):=fun p s f q=>by
    simp only[pb]at q ⊢;omega
   unfold cU;split
   ·exact h
   ·rename_i p s f e
    rw[e]at h1;split
    ·exact ok _ _ _ h1
    ·split
     ·exact ok _ _ _ h1
     ·exact h
theorem D5{α:Type}[Inhabited α]{l:List α}{a:α}(h:a∈l):∃i,i<l.length∧nth l i=a:=by
 obtain⟨i,hi,rfl⟩:=List.getElem_of_mem h;exact⟨i,hi,by simp[nth,hi]⟩
theorem aah:∀{LL:List (List Ch)} {left:Int},(∀l∈LL,∀c∈l,0≤c.cg∧(0≤c.jr∧c.jr≤1073741824)∧0≤c.js∧c.js≤1)→pb LL.length (jt LL left)
 |[],left,_=>by simp[jt,pb]
 |l::ls,left,h=>by
  have:=aag (left:=left) (k:=ls.length) (l:=l) (out:=none) (fun x=>aah (LL:=ls) (left:=x) fun l hl=>h l (by simp[hl])) trivial (h l (by simp))
  simpa [jt] using this
theorem Lb.all{LL:List (List Ch)}(h:Lb LL):∀l∈LL,∀c∈l,0≤c.cg∧(0≤c.jr∧c.jr≤1073741824)∧0≤c.js∧c.js≤1:=by
 intro l hl c hc;obtain⟨i,hi,rfl⟩:=D5 hl;obtain⟨j,hj,rfl⟩:=D5 hc;exact⟨(h.cg i j hi hj).1,h.jr i j hi hj,h.js i j hi hj⟩
theorem Lb.pb{LL:List (List Ch)}(h:Lb LL)(i:Nat)(left:Int):pb (LL.length:Int) (jt (LL.drop i) left):=by
 have h1:=aah (LL:=LL.drop i) (left:=left) (fun l hl=>h.all l (IB hl));cases hb:jt (LL.drop i) left with
 |none=>trivial
 |some q =>
  obtain⟨p,s,f⟩:=q;rw[hb]at h1;simp only[Go.Proofs.YtcelmhaoipbdiaaGreatDoor.pb]at h1 ⊢;have:(LL.drop i).length≤LL.length:=by simp
  omega
theorem QF{LL:List (List Ch)}{i:Nat}(h:i<LL.length)(left:Int):jt (LL.drop i) left=pT (jt (LL.drop (i+1))) left (nth LL i) none:=by
 rw[rj h];rfl
theorem amq(a b:Int):V.mz true [0,0] (.agg [i64 a,i64 b]) (.agg [i64 a,i64 b])=some true:=by simp[V.mz,eA,jU]
theorem amr{LL:List (List Ch)}(hL:Lb LL):∀(k i:Nat) (left:Int) (m:AD),k=LL.length-i→i≤LL.length→0≤left→left≤1073741824→xb LL m →
  ∃m',bd F 246 [i64 i,i64 left,.bI 0 0,.bI 2 0,.bI 3 0] (gl 246 LL m)=some (mg (jt (LL.drop i) left),gl 246 LL m')∧xb LL m':=by
 intro k;induction k with
 |zero =>
  intro i left m hk hi h0 h1 hm;obtain rfl:i=LL.length:=by omega
  refine⟨m,bX rfl rfl ?_,hm⟩;rw[zB,jt];simp (disch:=omega) [-getElem?_pos,wrap64,Hk,gl];rfl
 |succ k ih =>
  intro i left m hk hi h0 h1 hm
  suffices h:∀Q:V→List aT→Prop,(∀m',xb LL m'→Q (mg (jt (LL.drop i) left)) (gl 246 LL m'))→gU (bd F) 246 [i64 i,i64 left,.bI 0 0,.bI 2 0,.bI 3 0] (gl 246 LL m) Q by
   obtain⟨_,_,h,m',h1,rfl,rfl⟩:=h (fun v G=>∃m',xb LL m'∧v=mg (jt (LL.drop i) left)∧G=gl 246 LL m') fun m' a=>⟨m',a,rfl,rfl⟩;exact⟨m',h,h1⟩
  intro Q hQ;refine ic rfl rfl ?_;have bB:i<LL.length:=by omega
  have wc:¬(i:Int)=LL.length:=by omega
  have og:=amq i left;have D2:=hL.kb;rcases QE (LL:=LL) (i:=i) (left:=left) (m:=m) (k:=0) hm with hf | ⟨j,hf,hj⟩
  ·rw[QF bB left]at hQ
   generalize hW:pT (jt (LL.drop (i+1))) left (nth LL i) none=W at hQ;have hn:=hL.each i bB;simp (disch:=omega) [-getElem?_pos,wrap64,Hk,gl,wc,og,hf,bg (l:=LL)];have wW:∀(out:Part) (m:AD),out=W→xb LL m→(mA true [0,0] (.agg [i64 i,i64 left]) (rm m) 0=some none∧∃m',xb LL m'∧rm m++[(.agg [i64 i,i64 left],mg out)]=rm m') ∨
     ∃j v,mA true [0,0] (.agg [i64 i,i64 left]) (rm m) 0=some (some (j,v))∧∃m',xb LL m'∧(rm m).set j (.agg [i64 i,i64 left],mg out)=rm m':=by
    rintro out m rfl hm;rw[←QF bB left]at hW;rcases QE (LL:=LL) (i:=i) (left:=left) (m:=m) (k:=0) hm with h5 | ⟨j,h5,hj⟩
    ·refine .inl ⟨h5,m++[(((i:Int),left),out)],fun e he=>?_,by simp[rm]⟩
     rcases qA.1 he with h6|h6
     ·exact hm e h6
     ·obtain rfl:=oK.1 h6
      exact⟨i,rfl,hW.symm⟩
    ·refine .inr ⟨_,_,h5,m.set (0+j) (((i:Int),left),out),fun e he=>?_,by simp[rm,List.map_set]⟩
     rcases List.mem_or_eq_of_mem_set he with h6|rfl
     ·exact hm e h6
     ·exact⟨i,rfl,hW.symm⟩
   refine go_loop (fun x:Nat×Part×AD=>alv i left (.bI 2 0) (.bI 3 0) (.slice none 3 ((nth LL i).map Ch.row)) (nth LL i).length x.1 [.bool false,i64 0,i64 0,i64 0] (iZ x.2.1) (gl 246 LL x.2.2))
    (fun x=>x.1≤(nth LL i).length∧pT (jt (LL.drop (i+1))) left ((nth LL i).drop x.1) x.2.1=W∧xb LL x.2.2) (fun x=>(nth LL i).length-x.1) (0,none,m) rfl (by simp[gl,iZ]) ⟨by omega,by simpa using hW,hm⟩ ?_
   rintro⟨j,out,m⟩ ⟨hj,hq,hm⟩;simp only at hj hq hm;simp (disch:=omega) [-getElem?_pos,wrap64,ZB,gl];refine bS (fun h2=>?_) (fun h2=>?_)
   ·have h2:j<(nth LL i).length:=by omega
    have a1:=hL.cg i j bB h2;have a2:=hL.jr i j bB h2;have a3:=hL.js i j bB h2;rw[rj h2,pT]at hq;have gt:=bg h2;simp (disch:=omega) [-getElem?_pos,wrap64,gt];refine bS (fun h3=>?_) (fun h3=>?_)
    ·rw[aP h3]at hq
     rcases wW out m hq hm with⟨g1,m2,g2,g3⟩ | ⟨j2,v2,g1,m2,g2,g3⟩
     ·have:=hQ m2 g2
      cases oB:W with
      |none =>
       rw[hq]at g3;rw[oB]at this g3;simp only[gl,← g3,mg,iZ]at this;simp (disch:=omega) [-getElem?_pos,wrap64,hq,oB,iZ,og,g1];exact this
      |some q =>
       obtain⟨p,s,f⟩:=q;rw[hq]at g3;rw[oB]at this g3;simp only[gl,← g3,mg,iZ]at this;simp (disch:=omega) [-getElem?_pos,wrap64,hq,oB,iZ,og,g1];exact this
     ·have:=hQ m2 g2
      cases oB:W with
      |none =>
       rw[hq]at g3;rw[oB]at this g3;simp only[gl,← g3,mg,iZ]at this;simp (disch:=omega) [-getElem?_pos,wrap64,hq,oB,iZ,og,g1];exact this
      |some q =>
       obtain⟨p,s,f⟩:=q;rw[hq]at g3;rw[oB]at this g3;simp only[gl,← g3,mg,iZ]at this;simp (disch:=omega) [-getElem?_pos,wrap64,hq,oB,iZ,og,g1];exact this
    ·obtain⟨m',hI,uF⟩:=ih (i+1) (left-(nth (nth LL i) j).cg) m (by omega) (by omega) (by omega) (by omega) hm
     have hp:=hL.pb (i+1) (left-(nth (nth LL i) j).cg);rw[aA h3]at hq;unfold cU at hq;simp only[gl]at hI
     push_cast at hI
     cases hb:jt (LL.drop (i+1)) (left-(nth (nth LL i) j).cg) with
     |none =>
      rw[hb]at hI hp hq;simp only[mg,iZ]at hI;simp only at hq;simp (disch:=omega) [-getElem?_pos,wrap64,hI];exact bV (j+1,out,m') (by simp[gl]) ⟨by omega,hq,uF⟩ (by simp;omega)
     |some q =>
      obtain⟨p,s,f⟩:=q;rw[hb]at hI hp hq;simp only[mg,iZ]at hI;simp only at hq;simp only[pb]at hp;have hB:=fun a b=>amm a b [] [] (by simp) []
      simp only[ints,EW]at hB;cases out with
      |none =>
       simp only at hq;simp (disch:=omega) [-getElem?_pos,wrap64,hI,iZ];exact bV (j+1,some (p+(nth (nth LL i) j).jr,s+(nth (nth LL i) j).js,(nth (nth LL i) j).cg),m') (by simp[gl,iZ]) ⟨by omega,hq,uF⟩ (by simp;omega)
      |some o =>
       obtain⟨p',s',f'⟩:=o;simp only at hq;by_cases yH:jP (p+(nth (nth LL i) j).jr,s+(nth (nth LL i) j).js) (p',s') [] []
       ·rw[aP yH]at hq
        have hB:=hB (p+(nth (nth LL i) j).jr,s+(nth (nth LL i) j).js) (p',s');simp (disch:=omega) [-getElem?_pos,wrap64,hI,iZ,hB,yH];exact bV (j+1,some (p+(nth (nth LL i) j).jr,s+(nth (nth LL i) j).js,(nth (nth LL i) j).cg),m') (by simp[gl,iZ]) ⟨by omega,hq,uF⟩ (by simp;omega)
       ·rw[aA yH]at hq
        have hB:=hB (p+(nth (nth LL i) j).jr,s+(nth (nth LL i) j).js) (p',s');simp (disch:=omega) [-getElem?_pos,wrap64,hI,iZ,hB,yH];exact bV (j+1,some (p',s',f'),m') (by simp[gl,iZ]) ⟨by omega,hq,uF⟩ (by simp;omega)
   ·obtain rfl:j=(nth LL i).length:=by omega
    rw[zB,pT]at hq;rcases wW out m hq hm with⟨g1,m2,g2,g3⟩ | ⟨j2,v2,g1,m2,g2,g3⟩
    ·have:=hQ m2 g2
     cases oB:W with
     |none =>
      rw[hq]at g3;rw[oB]at this g3;simp only[gl,← g3,mg,iZ]at this;simp (disch:=omega) [-getElem?_pos,wrap64,hq,oB,iZ,og,g1];exact this
     |some q =>
      obtain⟨p,s,f⟩:=q;rw[hq]at g3;rw[oB]at this g3;simp only[gl,← g3,mg,iZ]at this;simp (disch:=omega) [-getElem?_pos,wrap64,hq,oB,iZ,og,g1];exact this
    ·have:=hQ m2 g2
     cases oB:W with
     |none =>
      rw[hq]at g3;rw[oB]at this g3;simp only[gl,← g3,mg,iZ]at this;simp (disch:=omega) [-getElem?_pos,wrap64,hq,oB,iZ,og,g1];exact this
     |some q =>
      obtain⟨p,s,f⟩:=q;rw[hq]at g3;rw[oB]at this g3;simp only[gl,← g3,mg,iZ]at this;simp (disch:=omega) [-getElem?_pos,wrap64,hq,oB,iZ,og,g1];exact this
  ·cases hb:jt (LL.drop i) left with
   |none =>
    rw[hb]at hf hQ;simp only[mg,iZ]at hf;simp (disch:=omega) [-getElem?_pos,wrap64,Hk,gl,wc,og,hf];exact hQ m hm
   |some q =>
    obtain⟨p,s,f⟩:=q;rw[hb]at hf hQ;simp only[mg,iZ]at hf;simp (disch:=omega) [-getElem?_pos,wrap64,Hk,gl,wc,og,hf];exact hQ m hm
noncomputable def Hv(g:Int)(u:Un)(s:Us):List Ch:=(qo u s g).map fun q=>⟨q,pow u q,iC s q⟩
noncomputable def ja(us:List Un)(ss:List Us)(g:Int):List (List Ch):=List.zipWith (Hv g) us ss
theorem ams(us:List Un)(ss:List Us)(g:Int):List.zipWith (Ht g) us ss=(ja us ss g).map QD:=by
 rw[ja,List.map_zipWith];congr 1;funext u s;simp[Hv,Ht,QD]
theorem QG{u:Un}{g:Int}(h:gC u g=0):(fe u g).length≤200:=by
 unfold gC at h;split at h
 ·contradiction
 ·split at h
  ·cases h
  ·split at h
   ·cases h
   ·omega
theorem amt{u:Un}{s:Us}{g:Int}(h:gC u g=0):(qo u s g).length≤202:=by
 have h1:=QG h;have h2:=DM (nz (fe u g++[0,s.cg]));have h3:=(An (fe u g++[0,s.cg])).length_eq;have h4:(qo u s g).length≤(dedup (nz (fe u g++[0,s.cg]))).length:=CH _ _;simp at h3;omega
structure KV(us:List Un)(ss:List Us)(g:Int):Prop where
 kb:us.length≤6
 len:us.length=ss.length
 valid:B3 us ss
 av7:1≤g∧g≤1073741824
 aai:B4 us g
theorem QH{us:List Un}{ss:List Us}{g release:Int}(h:qq us ss g release=0):KV us ss g∧(0≤release∧release≤1073741824)∧release≤200*g:=by
 unfold qq at h;split at h
 ·cases h
 ·split at h
  ·cases h
  ·split at h
   ·cases h
   ·split at h
    ·cases h
    ·split at h
     ·cases h
     ·split at h
      ·cases h
      ·rename_i h1 h2 h3 h4 h5 h6
       exact⟨⟨by omega,gW h2,gW h3,by omega,gW h6⟩,by omega,by omega⟩
theorem QI{us:List Un}{ss:List Us}{g:Int}(h:us.length=ss.length):(ja us ss g).length=us.length:=by simp[ja,h]
theorem xc{α β:Type}[Inhabited α][Inhabited β]{f:α→β}{l:List α}{i:Nat}(h:i<l.length):nth (l.map f) i=f (nth l i):=by
 simp[nth,h]
theorem D6{α β γ:Type}[Inhabited α][Inhabited β][Inhabited γ]{f:α→β→γ}{a:List α}{b:List β}{i:Nat}(h1:i<a.length)(h2:i<b.length):nth (List.zipWith f a b) i=f (nth a i) (nth b i):=by
 simp[nth,List.getElem?_zipWith,h1,h2]
theorem rp{α:Type}[Inhabited α]{l:List α}{i:Nat}(h:i<l.length):nth l i∈l:=gH (bg h)
theorem aaj{us:List Un}{ss:List Us}{g:Int}(h:KV us ss g):Lb (ja us ss g):=by
 have hl:=h.len;have e:∀i,i<(ja us ss g).length→nth (ja us ss g) i=Hv g (nth us i) (nth ss i):=fun i hi=>by
  rw[QI hl]at hi;exact D6 hi (by omega)
 have c:∀i j,i<(ja us ss g).length→j<(nth (ja us ss g) i).length→∃q,jG (nth us i) (nth ss i) q∧nth (nth (ja us ss g) i) j=⟨q,pow (nth us i) q,iC (nth ss i) q⟩:=fun i j hi hj=>by
  rw[e i hi]at hj ⊢;have uk:j<(qo (nth us i) (nth ss i) g).length:=by simpa [Hv] using hj
  refine⟨nth (qo (nth us i) (nth ss i) g) j,?_,xc uk⟩;have:=rp uk;simp only[qo,xt,jA]at this;exact this.2
 refine⟨by rw[QI hl];exact h.kb,fun i hi=>?_,fun i j hi hj=>?_,fun i j hi hj=>?_,fun i j hi hj=>?_⟩
 ·rw[e i hi]
  rw[QI hl]at hi;have:=amt (s:=nth ss i) (h.aai i hi);simp[Hv];omega
 ·obtain⟨q,h1,h2⟩:=c i j hi hj
  rw[h2];exact KR h1
 ·obtain⟨q,h1,h2⟩:=c i j hi hj
  rw[h2];exact KS
 ·obtain⟨q,h1,h2⟩:=c i j hi hj
  rw[h2];exact QB
noncomputable def ke(us:List Un)(ss:List Us)(g release:Int):Int:=if qq us ss g release≠0 then qq us ss g release else if mN (ja us ss g) release=none then 9 else 0
noncomputable def g7(us:List Un)(ss:List Us)(g release:Int):List Int:=if qq us ss g release≠0 then [] else (mN (ja us ss g) release).getD []
theorem aak{LL:List (List Ch)}:∀{l:List Ch} {rest:Int→Part} {left:Int} {out:Part} {p s f:Int},(∀q t e,out=some (q,t,e)→e≤left)→pT rest left l out=some (p,s,f)→f≤left
 |[],rest,left,out,p,s,f,h,he=>h _ _ _ (by simpa [pT] using he)
 |c::cs,rest,left,out,p,s,f,h,he=>by
  unfold pT at he;split at he
  ·exact h _ _ _ he
  ·refine aak (LL:=LL) (fun q t e hq=>?_) he
   unfold cU at hq;split at hq
   ·exact h _ _ _ hq
   ·split at hq
    ·cases hq;omega
    ·split at hq
     ·cases hq;omega
     ·cases hq;exact h _ _ _ rfl
theorem amu(us:List Un)(ss:List Us)(g release:Int):∃G',bd F 233 [kc us,jO ss,i64 g,i64 release] []=some (.tuple [own (g7 us ss g release),i64 (ke us ss g release)],G'):=by
 suffices h:∀Q:V→List aT→Prop,(∀G,Q (.tuple [own (g7 us ss g release),i64 (ke us ss g release)]) G)→gU (bd F) 233 [kc us,jO ss,i64 g,i64 release] [] Q by
  obtain⟨_,_,h,rfl⟩:=h (fun v _=>v=.tuple [own (g7 us ss g release),i64 (ke us ss g release)]) fun _=>rfl;exact⟨_,h⟩
 intro Q hQ;refine ic rfl rfl ?_;have hS:=amp us ss g release [];by_cases h0:qq us ss g release=0
 ·rw[h0,aP rfl,ams]at hS
  obtain⟨h1,h2,h3⟩:=QH h0;have hL:=aaj h1;have eL:g7 us ss g release=(mN (ja us ss g) release).getD []:=by simp[g7,h0]
  have eE:ke us ss g release=if mN (ja us ss g) release=none then 9 else 0:=by simp[ke,h0]
  rw[eL,eE]at hQ;have D2:=hL.kb;generalize hLL:ja us ss g=LL at *;simp (disch:=omega) [wrap64,P4,hS];refine go_loop (fun x:List Int×Int×AD=>ald (.bI 0 0) (.bI 3 0) (.slice (some 1048) 1 (x.1.map fun n=>[i64 n])) x.2.1 x.1.length (gl 246 LL x.2.2))
   (fun x=>x.1.length≤LL.length∧(0≤x.2.1∧x.2.1≤1073741824)∧(mN (LL.drop x.1.length) x.2.1).map (x.1 ++ ·)=mN LL release∧xb LL x.2.2) (fun x=>LL.length-x.1.length) ([],release,[]) rfl (by simp[gl,rm]) ⟨by simp,by simpa using h2,by simp,fun e he=>by simp at he⟩ ?_
  rintro⟨fs,left,m⟩ ⟨i1,i2,i3,i4⟩;simp only at i1 i2 i3 i4;simp (disch:=omega) [wrap64,Zo,gl];refine bS (fun h4=>?_) (fun h4=>?_)
  ·have h4:fs.length<LL.length:=by omega
   obtain⟨m',hI,uF⟩:=amr hL (LL.length-fs.length) fs.length left m rfl i1 i2.1 i2.2 i4;have hp:=hL.pb fs.length left;have hd:LL.drop fs.length=nth LL fs.length::LL.drop (fs.length+1):=rj h4;rw[hd,mN,← hd]at i3;cases hb:jt (LL.drop fs.length) left with
   |none =>
    rw[hb]at hI i3;simp only[mg,iZ,gl]at hI;simp only[IM]at i3;rw[←i3]at hQ;simp only[if_true,Mx]at hQ;simp (disch:=omega) [wrap64,hI];exact hQ _
   |some q =>
    obtain⟨p,s,f⟩:=q;rw[hb]at hI i3 hp;have hf:f≤left:=by
     rw[QF h4]at hb;exact aak (LL:=LL) (fun q t e hq=>by cases hq) hb
    simp only[mg,iZ,gl]at hI;simp only[pb]at hp;simp only at i3;simp (disch:=omega) [wrap64,hI];refine bV (fs++[f],left-f,m') (by simp[gl]) ⟨by simp;omega,by simp;omega,?_,uF⟩ (by simp;omega)
    rw[←i3];simp[Function.comp_def]
  ·have e:fs.length=LL.length:=by omega
   rw[e,zB,mN]at i3;simp only[mT,EO]at i3;rw[←i3]at hQ;simpa using hQ _
 ·rw[aA h0]at hS
  have eL:g7 us ss g release=[]:=by simp[g7,h0]
  have eE:ke us ss g release=qq us ss g release:=by simp[ke,h0]
  rw[eL,eE]at hQ;simp (disch:=omega) [wrap64,P4,hS,h0];exact hQ _
end Go.Proofs.YtcelmhaoipbdiaaGreatDoor
namespace Go.Proofs.YtcelmhaoipbdiaaGreatDoor
set_option linter.all false
open Go.Vm
def we(a b:Int×Int):Prop:=b.1<a.1∨(a.1=b.1∧a.2<b.2)
theorem yI{a b:Int×Int}{p q:List Int}:jP a b p q↔we a b∨(a.1=b.1∧a.2=b.2∧gm p q<0):=by
 unfold jP we;split
 ·omega
 ·split<;>omega
theorem amw{a:Int}{p q:List Int}:gm (a::p) (a::q)=gm p q:=by simp[gm]
theorem amx{a b:Int}{p q:List Int}(h:b<a):¬gm (a::p) (b::q)<0:=by
 simp only[gm];rw[aA (by omega),aP h]
 omega
def uJ:List (List Ch)→List Ch→Prop
 |[],[]=>True
 |l::ls,c::P=>c∈l∧uJ ls P
 |_,_=>False
def sF(P:List Ch):Int:=(P.map Ch.cg).sum
def sP(P:List Ch):Int:=(P.map Ch.jr).sum
def sS(P:List Ch):Int:=(P.map Ch.js).sum
theorem amy{LL:List (List Ch)}:∀{P:List Ch},(∀l∈LL,∀c∈l,0≤c.cg)→uJ LL P→0≤sF P:=by
 induction LL with
 |nil=>intro P _ hp;cases P with
  |nil=>simp[sF]
  |cons c P=>exact hp.elim
 |cons l ls ih =>
  intro P h hp;cases P with
  |nil=>exact hp.elim
  |cons c P =>
   have h1:=ih (fun l hl=>h l (by simp[hl])) hp.2
   have h2:=h l (by simp) c hp.1
   simp only[sF,nq,Mr]at h1 ⊢;omega
structure Top(LL:List (List Ch))(left:Int)(P:List Ch):Prop where
 B5:uJ LL P
 sum:sF P≤left
 best:∀Q,uJ LL Q→sF Q≤left→¬jP (sP Q,sS Q) (sP P,sS P) (Q.map Ch.cg) (P.map Ch.cg)
structure Jn(ls:List (List Ch))(left:Int)(pre:List Ch)(p s f:Int)(c:Ch)(P:List Ch):Prop where
 mem:c∈pre
 cg:c.cg=f
 B5:uJ ls P
 sum:c.cg+sF P≤left
 jr:c.jr+sP P=p
 js:c.js+sS P=s
 rest:mN ls (left-f)=some (P.map Ch.cg)
 best:∀d∈pre,∀Q,uJ ls Q→d.cg+sF Q≤left→¬jP (d.jr+sP Q,d.js+sS Q) (p,s) (d.cg::Q.map Ch.cg) (c.cg::P.map Ch.cg)
def J(ls:List (List Ch))(left:Int)(pre:List Ch):Part→Prop
 |none=>∀c∈pre,∀Q,uJ ls Q→left<c.cg+sF Q
 |some (p,s,f)=>∃c P,Jn ls left pre p s f c P
theorem aal{ls:List (List Ch)}{left:Int}{pre:List Ch}{out:Part}{l:List Ch}(h:J ls left pre out)(hn:∀c∈l,∀Q,uJ ls Q→left<c.cg+sF Q):J ls left (pre++l) out:=by
 cases out with
 |none =>
  intro c hc Q hQ;rcases qA.1 hc with h1|h1
  ·exact h c h1 Q hQ
  ·exact hn c h1 Q hQ
 |some q =>
  obtain⟨p,s,f⟩:=q;obtain⟨c,P,j⟩:=h;refine⟨c,P,⟨by simp[j.mem],j.cg,j.B5,j.sum,j.jr,j.js,j.rest,fun d hd Q hQ hs=>?_⟩⟩
  rcases qA.1 hd with h1|h1
  ·exact j.best d h1 Q hQ hs
  ·have:=hn d h1 Q hQ
   omega
def Good(ls:List (List Ch)):Prop:=∀left,0≤left→match jt ls left with
 |none=>∀Q,uJ ls Q→left<sF Q
 |some (p,s,_)=>∃P,Top ls left P∧sP P=p∧sS P=s∧mN ls left=some (P.map Ch.cg)
theorem amB{ls:List (List Ch)}(hg:Good ls){left:Int}{pre:List Ch}{out:Part}{c:Ch}(h:J ls left pre out)(KW:∀d∈pre,d.cg<c.cg)(hle:c.cg≤left):J ls left (pre++[c]) (cU (jt ls) left c out):=by
 have hg:=hg (left-c.cg) (by omega)
 unfold cU;cases hb:jt ls (left-c.cg) with
 |none =>
  rw[hb]at hg;exact aal h fun d hd Q hQ=>by
   obtain rfl:=oK.1 hd;have:=hg Q hQ;omega
 |some q =>
  obtain⟨p0,s0,f0⟩:=q;rw[hb]at hg;obtain⟨P0,t,rfl,rfl,e0⟩:=hg;have new:∀d∈[c],∀Q,uJ ls Q→d.cg+sF Q≤left→¬jP (d.jr+sP Q,d.js+sS Q) (sP P0+c.jr,sS P0+c.js) (d.cg::Q.map Ch.cg) (c.cg::P0.map Ch.cg):=by
   intro d hd Q hQ hs wh;obtain rfl:=oK.1 hd;refine t.best Q hQ (by omega) ?_
   rw[yI]at wh ⊢;rw[amw]at wh;unfold we at wh ⊢;simp only at wh ⊢;omega
  have ts:=t.sum;cases out with
  |none =>
   simp only;refine⟨c,P0,⟨by simp,rfl,t.B5,by omega,by omega,by omega,e0,fun d hd Q hQ hs=>?_⟩⟩
   rcases qA.1 hd with h1|h1
   ·have:=h d h1 Q hQ;omega
   ·exact new d h1 Q hQ hs
  |some o =>
   obtain⟨p,s,f⟩:=o;obtain⟨c1,P1,j⟩:=h;simp only;split
   ·rename_i wh
    rw[yI]at wh;have hv:we (sP P0+c.jr,sS P0+c.js) (p,s):=by
     rcases wh with h|h
     ·exact h
     ·simp[gm]at h
    unfold we at hv;simp only at hv;refine⟨c,P0,⟨by simp,rfl,t.B5,by omega,by omega,by omega,e0,fun d hd Q hQ hs=>?_⟩⟩
    rcases qA.1 hd with h1|h1
    ·have:=j.best d h1 Q hQ hs
     rw[yI]at this ⊢;unfold we at this ⊢;simp only at this ⊢;omega
    ·exact new d h1 Q hQ hs
   ·rename_i wh
    rw[yI]at wh;unfold we at wh;simp only at wh;refine⟨c1,P1,⟨by simp[j.mem],j.cg,j.B5,j.sum,j.jr,j.js,j.rest,fun d hd Q hQ hs=>?_⟩⟩
    rcases qA.1 hd with h1|h1
    ·exact j.best d h1 Q hQ hs
    ·have h2:=new d h1 Q hQ hs
     obtain rfl:=oK.1 h1;have h3:=amx (p:=Q.map Ch.cg) (q:=P1.map Ch.cg) (KW c1 j.mem);rw[yI]at h2 ⊢;unfold we at h2 ⊢;simp only at h2 ⊢;omega
theorem aam{ls:List (List Ch)}(hg:Good ls)(h0:∀l∈ls,∀c∈l,0≤c.cg){left:Int}:∀{cs pre:List Ch} {out:Part},(pre++cs).Pairwise (fun a b=>a.cg<b.cg)→J ls left pre out→J ls left (pre++cs) (pT (jt ls) left cs out)
 |[],pre,out,_,h=>by simpa [pT] using h
 |c::cs,pre,out,hp,h=>by
  have xI:=List.pairwise_append.1 hp;unfold pT;split
  ·rename_i bB
   refine aal h fun d hd Q hQ=>?_;have:=amy h0 hQ;rcases ko.1 hd with rfl|h1
   ·omega
   ·have:=(wD.1 xI.2.1).1 d h1
    omega
  ·have h1:=amB hg h (c:=c) (fun d hd=>xI.2.2 d hd c (by simp)) (by omega)
   have h2:=aam hg h0 (cs:=cs) (pre:=pre++[c]) (by simpa using hp) h1
   simpa using h2
def Asc(LL:List (List Ch)):Prop:=∀l∈LL,l.Pairwise fun a b=>a.cg<b.cg
theorem aao:∀{LL:List (List Ch)},(∀l∈LL,∀c∈l,0≤c.cg)→Asc LL→Good LL
 |[],_,_=>fun left h0=>by
  simp only[jt];refine⟨[],⟨trivial,by simpa [sF] using h0,fun Q hQ _=>?_⟩,rfl,rfl,rfl⟩
  cases Q with
  |nil=>simp[jP,gm]
  |cons c Q=>exact hQ.elim
 |l::ls,h0,ha=>fun left oi=>by
  have hg:Good ls:=aao (fun l hl=>h0 l (by simp[hl])) (fun l hl=>ha l (by simp[hl]))
  have hj:=aam hg (fun l hl=>h0 l (by simp[hl])) (left:=left) (cs:=l) (pre:=[]) (out:=none) (by simpa using ha l (by simp)) (fun c hc=>by simp at hc)
  simp only[CI]at hj;have e:jt (l::ls) left=pT (jt ls) left l none:=rfl;rw[e];cases hb:pT (jt ls) left l none with
  |none =>
   rw[hb]at hj;intro Q hQ;cases Q with
   |nil=>exact hQ.elim
   |cons c Q =>
    have:=hj c hQ.1 Q hQ.2;simpa [sF] using this
  |some q =>
   obtain⟨p,s,f⟩:=q;rw[hb]at hj;obtain⟨c,P,j⟩:=hj;have j4:=j.sum;have j5:=j.jr;have j6:=j.js;refine⟨c::P,⟨⟨j.mem,j.B5⟩,by simpa [sF] using j4,fun Q hQ hs=>?_⟩,by simpa [sP] using j5,by simpa [sS] using j6,?_⟩
   ·cases Q with
    |nil=>exact hQ.elim
    |cons d Q =>
     have:=j.best d hQ.1 Q hQ.2 (by simpa [sF] using hs)
     have e1:sP (c::P)=p:=by simpa [sP] using j5
     have e2:sS (c::P)=s:=by simpa [sS] using j6
     rw[e1,e2];simpa [sP,sS] using this
   ·rw[mN,e,hb]
    simp only;rw[j.rest];simp[j.cg]
end Go.Proofs.YtcelmhaoipbdiaaGreatDoor
namespace Go.Proofs.YtcelmhaoipbdiaaGreatDoor
set_option linter.all false
open Go.Vm
theorem QJ{x:Int}:∀{l:List Int},x∈dedup l↔x∈l
 |[]=>Iff.rfl
 |[a]=>Iff.rfl
 |a::b::r=>by
  have ih:=QJ (x:=x) (l:=b::r);unfold dedup;by_cases h:a=b
  ·simp only[h,beq_self_eq_true,bC,ih]
   simp
  ·have h':(a==b)=false:=by simpa using h
   simp only[h',eV,ko,ih]
theorem aar:∀{l:List Int},l.Pairwise (· ≤ ·)→(dedup l).Pairwise (· < ·)
 |[],_=>.nil
 |[a],_=>by simp[dedup]
 |a::b::r,h=>by
  obtain⟨h1,h2⟩:=wD.1 h;have ih:=aar h2;unfold dedup;by_cases rh:a=b
  ·simp only[rh,beq_self_eq_true,bC]
   exact ih
  ·have h':(a==b)=false:=by simpa using rh
   simp only[h',eV,wD];refine⟨fun x hx=>?_,ih⟩;rw[QJ]at hx;have h3:=h1 b (by simp)
   rcases ko.1 hx with rfl|h4
   ·omega
   ·have:=(wD.1 h2).1 x h4
    omega
theorem D7{u:Un}{s:Us}{g q:Int}:q∈qo u s g↔(q∈fe u g∨q=0∨q=s.cg)∧jG u s q:=by
 simp only[qo,xt,QJ,(An _).mem_iff,jA,qA,ko,List.not_mem_nil,or_false]
theorem amD{u:Un}{s:Us}{g:Int}:(qo u s g).Pairwise (· < ·):=(aar (OQ _)).filter _
def mh(g:Int):List Un→List Us→List Int→Prop
 |u::us,s::ss,q::F=>q∈qo u s g∧mh g us ss F
 |[],[],[]=>True
 |_,_,_=>False
noncomputable def iH:List Un→List Int→Int
 |u::us,q::F=>pow u q+iH us F
 |_,_=>0
def iI:List Us→List Int→Int
 |s::ss,q::F=>iC s q+iI ss F
 |_,_=>0
noncomputable def uK:List Un→List Us→List Int→List Ch
 |u::us,s::ss,q::F=>⟨q,pow u q,iC s q⟩::uK us ss F
 |_,_,_=>[]
theorem B6{g:Int}:∀{us:List Un} {ss:List Us} {F:List Int},mh g us ss F→F.length=us.length∧F.length=ss.length
 |[],[],[],_=>⟨rfl,rfl⟩
 |_::_,_::_,_::_,h=>by have:=B6 h.2;simp;omega
 |[],_::_,_,h=>h.elim
 |[],[],_::_,h=>h.elim
 |_::_,[],_,h=>h.elim
 |_::_,_::_,[],h=>h.elim
theorem KX{g:Int}:∀{us:List Un} {ss:List Us} {F:List Int},mh g us ss F→uJ (ja us ss g) (uK us ss F)∧(uK us ss F).map Ch.cg=F∧sF (uK us ss F)=F.sum∧sP (uK us ss F)=iH us F∧sS (uK us ss F)=iI ss F
 |[],[],[],_=>⟨trivial,rfl,rfl,rfl,rfl⟩
 |u::us,s::ss,q::F,h=>by
  obtain⟨h1,h2,h3,h4,h5⟩:=KX h.2;refine⟨⟨lV.2 ⟨q,h.1,rfl⟩,h1⟩,by simp[uK,h2],?_,?_,?_⟩
  ·simp only[sF]at h3 ⊢;simp[uK,h3]
  ·simp only[sP]at h4 ⊢;simp[uK,iH,h4]
  ·simp only[sS]at h5 ⊢;simp[uK,iI,h5]
 |[],_::_,_,h=>h.elim
 |[],[],_::_,h=>h.elim
 |_::_,[],_,h=>h.elim
 |_::_,_::_,[],h=>h.elim
theorem aas{g:Int}:∀{us:List Un} {ss:List Us} {P:List Ch},us.length=ss.length→uJ (ja us ss g) P→mh g us ss (P.map Ch.cg)∧P=uK us ss (P.map Ch.cg)
 |[],[],[],_,_=>⟨trivial,rfl⟩
 |[],[],_::_,_,h=>h.elim
 |[],_::_,_,h,_=>by simp at h
 |_::_,[],_,h,_=>by simp at h
 |_::_,_::_,[],_,h=>h.elim
 |u::us,s::ss,c::P,hl,h=>by
  obtain⟨h1,h2⟩:=aas (by simpa using hl) h.2
  obtain⟨q,hq,rfl⟩:=lV.1 h.1;exact⟨⟨hq,h1⟩,by simp[uK];exact h2⟩
structure B7(g:Int)(us:List Un)(ss:List Us)(left:Int)(F:List Int):Prop where
 mh:mh g us ss F
 sum:F.sum≤left
 best:∀E,Go.Proofs.YtcelmhaoipbdiaaGreatDoor.mh g us ss E→E.sum≤left→¬jP (iH us E,iI ss E) (iH us F,iI ss F) E F
theorem aat{g:Int}:∀{us:List Un} {ss:List Us},Asc (ja us ss g)
 |[],_=>fun l hl=>by simp[ja]at hl
 |_::_,[]=>fun l hl=>by simp[ja]at hl
 |u::us,s::ss=>fun l hl=>by
  rcases ko.1 hl with rfl|h
  ·exact SN.2 amD
  ·exact aat (us:=us) (ss:=ss) l h
theorem aau{us:List Un}{ss:List Us}{g left:Int}(hs:KV us ss g)(h0:0≤left) :
  match mN (ja us ss g) left with
  |none=>∀F,mh g us ss F→left<F.sum
  |some F=>B7 g us ss left F:=by
 have hL:=aaj hs;have hn:∀l∈ja us ss g,∀c∈l,0≤c.cg:=fun l hl c hc=>(hL.all l hl c hc).1;have hg:=aao hn aat;have Bt:=hg left h0;cases hb:jt (ja us ss g) left with
 |none =>
  rw[hb]at Bt;have e:mN (ja us ss g) left=none:=by
   cases hl:ja us ss g with
   |nil=>rw[hl]at hb;simp[jt]at hb
   |cons l ls=>rw[mN,← hl,hb]
  rw[e];intro F hF;obtain⟨h1,_,h3,_⟩:=KX hF;have:=Bt _ h1;omega
 |some q =>
  obtain⟨p,s,f⟩:=q;rw[hb]at Bt;obtain⟨P,t,_,_,e⟩:=Bt;rw[e];obtain⟨h1,h2⟩:=aas hs.len t.B5;obtain⟨_,_,h3,h4,h5⟩:=KX h1;rw[←h2]at h3 h4 h5;refine⟨h1,by have:=t.sum;omega,fun E hE hs=>?_⟩
  obtain⟨e1,e2,e3,e4,e5⟩:=KX hE;have:=t.best _ e1 (by omega)
  rwa [e2,e4,e5,h4,h5]at this
theorem aav:∀{p q:List Int},p.length=q.length→(gm p q<0∨gm q p<0∨p=q)
 |[],[],_=>.inr (.inr rfl)
 |[],_::_,h=>by simp at h
 |_::_,[],h=>by simp at h
 |a::p,b::q,h=>by
  have ih:=aav (p:=p) (q:=q) (by simpa using h)
  simp only[gm];rcases EI a b with h1|h1|h1
  ·left;simp[h1]
  ·subst h1
   simp only[EH,if_false];rcases ih with h2|h2|h2
   ·exact .inl h2
   ·exact .inr (.inl h2)
   ·exact .inr (.inr (by rw[h2]))
  ·right;left;simp[h1]
theorem amE{a b:Int×Int}{p q:List Int}(h:p.length=q.length):jP a b p q∨jP b a q p∨(a=b∧p=q):=by
 rw[yI,yI];unfold we;obtain⟨a1,a2⟩:=a;obtain⟨b1,b2⟩:=b;rcases aav h with h1|h1|h1
 ·simp only[Prod.mk.injEq];omega
 ·simp only[Prod.mk.injEq];omega
 ·simp only[Prod.mk.injEq,h1,and_true];omega
theorem B7.unique{g:Int}{us:List Un}{ss:List Us}{left:Int}{F E:List Int}(h:B7 g us ss left F)(h':B7 g us ss left E):F=E:=by
 have l1:=B6 h.mh;have l2:=B6 h'.mh;rcases amE (a:=(iH us F,iI ss F)) (b:=(iH us E,iI ss E)) (p:=F) (q:=E) (by omega) with h1|h1|h1
 ·exact absurd h1 (h'.best F h.mh h.sum)
 ·exact absurd h1 (h.best E h'.mh h'.sum)
 ·exact h1.2
theorem aaw{g:Int}:∀{us:List Un} {ss:List Us} {F:List Int} {a b c:Int},mh g us ss F→yF us ss F (a,b,c)=some (a+F.sum,b+iH us F,c+iI ss F)
 |[],[],[],a,b,c,_=>by simp[yF,iH,iI]
 |u::us,s::ss,q::F,a,b,c,h=>by
  rw[yF,aP (D7.1 h.1).2,aaw h.2];simp only[Mr,iH,iI,Option.some.injEq,Prod.mk.injEq];omega
 |[],_::_,_,_,_,_,h=>h.elim
 |[],[],_::_,_,_,_,h=>h.elim
 |_::_,[],_,_,_,_,h=>h.elim
 |_::_,_::_,[],_,_,_,h=>h.elim
theorem aax{g:Int}{us:List Un}{ss:List Us}{F:List Int}(h:mh g us ss F):B2 us ss F=some (F.sum,iH us F,iI ss F):=by
 have l:=B6 h;rw[B2,aP (by omega),aaw h]
 simp
end Go.Proofs.YtcelmhaoipbdiaaGreatDoor
namespace Go.Proofs.YtcelmhaoipbdiaaGreatDoor
set_option linter.all false
open Go.Vm
attribute [local simp] mK mL lN mJ
theorem aay:∀{p q:List Int},gm p q<0→¬gm q p<0
 |[],[],h=>by simp[gm]at h
 |[],_::_,_=>by simp[gm]
 |_::_,[],h=>by simp[gm]at h
 |a::p,b::q,h=>by
  have ih:=aay (p:=p) (q:=q);simp only[gm]at h ⊢;rcases EI a b with h1|h1|h1
  ·rw[aA (by omega),aP h1];omega
  ·subst h1
   simp only[EH,if_false]at h ⊢;exact ih h
  ·rw[aA (by omega),aP h1]at h;omega
theorem aaz:∀{p q r:List Int},gm p q<0→gm q r<0→gm p r<0
 |[],[],_,h,_=>by simp[gm]at h
 |_::_,[],_,h,_=>by simp[gm]at h
 |_,_::_,[],_,h=>by simp[gm]at h
 |[],_::_,_::_,_,_=>by simp[gm]
 |a::p,b::q,c::r,h,h'=>by
  have ih:=aaz (p:=p) (q:=q) (r:=r);simp only[gm]at h h' ⊢;rcases EI a b with h1|h1|h1
  ·rcases EI b c with h2|h2|h2
   ·rw[aP (by omega)];omega
   ·rw[aP (by omega)];omega
   ·rw[aA (by omega),aP h2]at h';omega
  ·subst h1
   simp only[EH,if_false]at h;rcases EI a c with h2|h2|h2
   ·rw[aP h2];omega
   ·subst h2
    simp only[EH,if_false]at h' ⊢;exact ih h h'
   ·rw[aA (by omega),aP h2]at h';omega
  ·rw[aA (by omega),aP h1]at h;omega
theorem amF{a b:Int×Int}{p q:List Int}(h:jP a b p q):¬jP b a q p:=by
 rw[yI]at h ⊢;unfold we at h ⊢;have:=aay (p:=p) (q:=q);rcases h with h | ⟨h1,h2,h3⟩
 ·omega
 ·have:=this h3;omega
theorem amG{a b c:Int×Int}{p q r:List Int}(h:jP a b p q)(h':jP b c q r):jP a c p r:=by
 rw[yI]at h h' ⊢;unfold we at h h' ⊢;have:=aaz (p:=p) (q:=q) (r:=r);rcases h with h | ⟨h1,h2,h3⟩
 ·omega
 ·rcases h' with h' | ⟨h4,h5,h6⟩
  ·omega
  ·have:=this h3 h6
   omega
theorem aaA{a:Int×Int}{p:List Int}:¬jP a a p p:=fun h=>amF h h
noncomputable def AE(us:List Un)(ss:List Us)(g:Int):Int :=
 if 6<us.length then 10 else if us.length≠ss.length then 3 else if ¬B3 us ss then 3 else if g<1∨1073741824<g then 1 else 0
theorem amH(us:List Un)(ss:List Us)(g:Int)(G:List aT):bd F 179 [kc us,jO ss,i64 g] G=some (i64 (AE us ss g),G) :=
 bX rfl rfl (by
  generalize hE:AE us ss g=E;unfold AE at hE;simp +contextual (disch:=omega) [-getElem?_pos,wrap64,YK];refine bS (fun h1=>?_) (fun h1=>gT (fun h2=>?_) (fun h2=>?_))
  ·rw[aP (by omega)]at hE
   exact hE
  ·simp[-List.length_eq_zero_iff,-Int.natCast_eq_zero]at h2
   rw[aA (by omega),aP (by omega)]at hE
   exact hE
  ·simp[-List.length_eq_zero_iff,-Int.natCast_eq_zero]at h2
   have hl:us.length=ss.length:=by omega
   rw[aA (by omega),aA (by omega)]at hE
   refine go_loop (fun i:Nat=>aky (jO ss) g (kc us) us.length i G) (fun i=>i≤us.length∧∀j,j<i→e7 (nth us j) (nth ss j)) (fun i=>us.length-i) 0 rfl (by simp) ⟨by omega,by omega⟩ ?_
   rintro i ⟨hi,hv⟩;simp +contextual (disch:=omega) [-getElem?_pos,wrap64,YJ];refine bS (fun h3=>?_) (fun h3=>?_)
   ·have h3:i<us.length:=by omega
    by_cases h4:e7 (nth us i) (nth ss i)
    ·simp +contextual (disch:=omega) [-getElem?_pos,wrap64,bg (l:=us),bg (l:=ss),w9,h4]
     refine bV (i+1) (by simp) ⟨by omega,fun j hj=>?_⟩ (by omega)
     rcases cF j i with h5|h5
     ·exact hv j h5
     ·rwa [show j=i by omega]
    ·rw[aP (fun h=>h4 (h i h3))]at hE
     simp +contextual (disch:=omega) [-getElem?_pos,wrap64,bg (l:=us),bg (l:=ss),w9,h4];exact hE
   ·obtain rfl:i=us.length:=by omega
    rw[aA (fun h=>h hv)]at hE;refine gT (fun h5=>?_) (fun h5=>?_)
    ·simp[-List.length_eq_zero_iff,-Int.natCast_eq_zero]at h5
     rw[aP (by omega)]at hE
     exact hE
    ·simp[-List.length_eq_zero_iff,-Int.natCast_eq_zero]at h5
     rw[aA (by omega)]at hE
     exact hE)
noncomputable def tC(u:Un)(s:Us)(g:Int):List Int:=([0,s.cg]++fe u g).filter fun q=>decide (jG u s q)
theorem aaB{u:Un}{s:Us}{g q:Int}:q∈tC u s g↔q∈qo u s g:=by
 rw[D7];simp only[tC,xt,jA,qA,ko,List.not_mem_nil,or_false];constructor
 ·rintro⟨(h|h)|h,h2⟩
  ·exact⟨.inr (.inl h),h2⟩
  ·exact⟨.inr (.inr h),h2⟩
  ·exact⟨.inl h,h2⟩
 ·rintro⟨h|h|h,h2⟩
  ·exact⟨.inr h,h2⟩
  ·exact⟨.inl (.inl h),h2⟩
  ·exact⟨.inl (.inr h),h2⟩
theorem amI{u:Un}{s:Us}{g:Int}(h:gC u g=0):(tC u s g).length≤202:=by
 have h1:=QG h;have:(tC u s g).length≤([0,s.cg]++fe u g).length:=CH _ _;simp at this;omega
theorem amJ{u:Un}{s:Us}(hv:e7 u s)(g:Int)(G:List aT):bd F 208 [un u,us s,i64 g] G =
  some (if gC u g=0 then .tuple [.slice (some 0) 1 ((tC u s g).map fun n=>[i64 n]),i64 0] else .tuple [.slice (some 0) 1 [],i64 (gC u g)],G) :=
 bX rfl rfl (by
  by_cases he:gC u g=0
  ·have hlen:=QG he
   have hf:nL u g=fe u g:=by simp[nL,he]
   have hc:tC u s g=(0::s.cg::fe u g).filter fun q=>decide (jG u s q):=rfl;rw[aP he,hc];generalize hL:(0::s.cg::fe u g)=L;have hLl:L.length=(fe u g).length+2:=by rw[←hL];simp
   have hLm:[i64 0]::[i64 s.cg]::(fe u g).map (fun n=>[i64 n])=L.map fun n=>[i64 n]:=by rw[←hL];rfl
   simp (disch:=omega) [-getElem?_pos,wrap64,PZ,D1,he,hf,hLm];refine go_loop (fun i:Nat=>akW (.slice (some 1039) 1 (((L.take i).filter fun q=>decide (jG u s q)).map fun n=>[i64 n])) (.slice (some 1024) 1 (L.map fun n=>[i64 n])) L.length i u.row s.row L.length ((L.take i).filter fun q=>decide (jG u s q)).length G)
    (fun i=>i≤L.length) (fun i=>L.length-i) 0 rfl (by simp[hLl];omega) (by omega) ?_
   intro i hi;have UN:((L.take i).filter fun q=>decide (jG u s q)).length≤i:=jT (CH _ _) (by simp;omega)
   simp (disch:=omega) [-getElem?_pos,wrap64,Y6];refine bS (fun h1=>?_) (fun h1=>?_)
   ·have h1:i<L.length:=by omega
    have hM:=Qp u s (nth L i) [];by_cases h3:jG u s (nth L i)
    ·have h4:decide (e7 u s∧jN u s (nth L i))=true:=fL h3
     rw[h4]at hM;have h5:(L.take (i+1)).filter (fun q=>decide (jG u s q))=(L.take i).filter (fun q=>decide (jG u s q))++[nth L i]:=by
      rw[jQ h1,AS];simp[h3]
     simp (disch:=omega) [-getElem?_pos,wrap64,dV h1,hM];exact bV (i+1) (by rw[h5];simp) (by omega) (by omega)
    ·have h4:decide (e7 u s∧jN u s (nth L i))=false:=decide_eq_false h3
     rw[h4]at hM;have h5:(L.take (i+1)).filter (fun q=>decide (jG u s q))=(L.take i).filter (fun q=>decide (jG u s q)):=by
      rw[jQ h1,AS];simp[h3]
     simp (disch:=omega) [-getElem?_pos,wrap64,dV h1,hM];exact bV (i+1) (by rw[h5];simp) (by omega) (by omega)
   ·obtain rfl:i=L.length:=by omega
    rw[pq]
  ·rw[aA he]
   have hf:nL u g=[]:=by simp[nL,he]
   simp (disch:=omega) [-getElem?_pos,wrap64,PZ,D1,he,hf])
noncomputable abbrev KY(g:Int)(u:Un)(s:Us):List V:=[.slice none 1 ((tC u s g).map fun n=>[i64 n])]
noncomputable def AF(us:List Un)(g:Int):Int:=if B4 us g then 0 else 10
theorem amM{us:List Un}{ss:List Us}(hl:us.length=ss.length)(hn:us.length≤1000)(hv:B3 us ss)(g:Int)(G:List aT):bd F 180 [kc us,jO ss,i64 g] G =
  some (.tuple [.slice (some 0) 1 (if AF us g=0 then List.zipWith (KY g) us ss else []),i64 (AF us g)],G) :=
 bX rfl rfl (by
  generalize hE:AF us g=E;generalize hW:V.tuple [.slice (some 0) 1 (if E=0 then List.zipWith (KY g) us ss else []),i64 E]=W
  unfold AF at hE;simp (disch:=omega) [-getElem?_pos,wrap64,YM];refine go_loop (fun i:Nat=>akA (jO ss) g (.slice (some 1035) 1 (List.zipWith (KY g) (us.take i) (ss.take i))) (kc us) us.length i i G)
   (fun i=>i≤us.length∧∀j,j<i→gC (nth us j) g=0) (fun i=>us.length-i) 0 rfl (by simp) ⟨by omega,by omega⟩ ?_
  rintro i ⟨hi,hf⟩;simp (disch:=omega) [-getElem?_pos,wrap64,YL];refine bS (fun h3=>?_) (fun h3=>?_)
  ·have h3:i<us.length:=by omega
   have fT:i<ss.length:=by omega
   have hC:=amJ (hv i h3) g [];by_cases h4:gC (nth us i) g=0
   ·rw[aP h4]at hC
    simp (disch:=omega) [-getElem?_pos,wrap64,bg (l:=us),bg (l:=ss),hC];refine bV (i+1) ?_ ⟨by omega,fun j hj=>?_⟩ (by omega)
    ·rw[yG h3 fT];simp
    rcases cF j i with h5|h5
    ·exact hf j h5
    ·rwa [show j=i by omega]
   ·rw[aA h4]at hC
    rw[aA (fun h=>h4 (h i h3))]at hE;subst hE;simp (disch:=omega) [-getElem?_pos,wrap64,bg (l:=us),bg (l:=ss),hC,h4];exact hW
  ·obtain rfl:i=us.length:=by omega
   rw[aP (show B4 us g from hf)]at hE;subst hE;rw[pq,kG (by omega)]
   simp[←hW])
end Go.Proofs.YtcelmhaoipbdiaaGreatDoor
namespace Go.Proofs.YtcelmhaoipbdiaaGreatDoor
set_option linter.all false
open Go.Vm
def Vd:List Nat→List Nat→Prop
 |[],[]=>True
 |n::ns,d::a=>d<n∧Vd ns a
 |_,_=>False
def qu:List Nat→Nat
 |[]=>1
 |n::ns=>n*qu ns
def rk:List Nat→List Nat→Nat
 |_::ns,d::a=>d*qu ns+rk ns a
 |_,_=>0
def inc:List Nat→List Nat→Option (List Nat)
 |n::ns,d::a=>match inc ns a with
  |some b=>some (d::b)
  |none=>if d+1<n then some ((d+1)::List.replicate a.length 0) else none
 |_,_=>none
theorem D8:∀{ns a:List Nat},Vd ns a→a.length=ns.length
 |[],[],_=>rfl
 |_::_,_::_,h=>by simp[D8 h.2]
 |[],_::_,h=>h.elim
 |_::_,[],h=>h.elim
theorem yJ:∀{ns a:List Nat},Vd ns a→∀i,i<ns.length→nth a i<nth ns i
 |n::ns,d::a,h,i,hi=>by
  cases i with
  |zero=>exact h.1
  |succ i=>exact yJ h.2 i (by simpa using hi)
theorem D9:∀{ns a:List Nat},Vd ns a→rk ns a<qu ns
 |[],[],_=>by simp[rk,qu]
 |n::ns,d::a,h=>by
  have ih:=D9 h.2;have h1:=rI (qu ns) (show d+1≤n from h.1);simp only[rk,qu];rw[nU]at h1;omega
 |[],_::_,h=>h.elim
 |_::_,[],h=>h.elim
theorem aaC:∀{ns a b:List Nat},Vd ns a→Vd ns b→rk ns a=rk ns b→a=b
 |[],[],[],_,_,_=>rfl
 |n::ns,d::a,e::b,ha,hb,h=>by
  have h1:=D9 ha.2;have h2:=D9 hb.2;simp only[rk]at h;have hde:d=e:=by
   rcases E1 d e with h3|h3|h3
   ·have:=rI (qu ns) (show d+1≤e from h3)
    rw[nU]at this;omega
   ·exact h3
   ·have:=rI (qu ns) (show e+1≤d from h3)
    rw[nU]at this;omega
  subst hde;rw[aaC ha.2 hb.2 (by omega)]
 |[],_::_,_,h,_,_=>h.elim
 |[],[],_::_,_,h,_=>h.elim
 |_::_,[],_,h,_,_=>h.elim
 |_::_,_::_,[],_,h,_=>h.elim
theorem QK:∀{ns:List Nat} {k:Nat},rk ns (List.replicate k 0)=0
 |[],k=>by cases k<;>rfl
 |_::ns,0=>rfl
 |_::ns,k+1=>by simp[zC,rk,QK]
theorem QL:∀{ns:List Nat},(∀n∈ns,0<n)→Vd ns (List.replicate ns.length 0)
 |[],_=>trivial
 |n::ns,h=>⟨h n (by simp),QL fun m hm=>h m (by simp[hm])⟩
theorem aaD:∀{ns a:List Nat},Vd ns a→match inc ns a with
  |none=>rk ns a+1=qu ns
  |some b=>Vd ns b∧rk ns b=rk ns a+1
 |[],[],_=>by simp[inc,rk,qu]
 |n::ns,d::a,h=>by
  have ih:=aaD h.2;have hl:=D8 h.2;unfold inc;cases hi:inc ns a with
  |some b =>
   rw[hi]at ih;simp only at ih ⊢;exact⟨⟨h.1,ih.1⟩,by simp only[rk];omega⟩
  |none =>
   rw[hi]at ih;simp only at ih ⊢;have hp:∀m∈ns,0<m:=fun m hm=>by
    obtain⟨i,hi,rfl⟩:=D5 hm;have:=yJ h.2 i hi;omega
   by_cases hd:d+1<n
   ·simp only[hd,if_true]
    refine⟨⟨hd,by rw[hl];exact QL hp⟩,?_⟩
    simp only[rk,QK];rw[nU];omega
   ·simp only[hd,if_false]
    have:n=d+1:=by have:=h.1;omega
    subst this;simp only[rk,qu];rw[nU];omega
 |[],_::_,h=>h.elim
 |_::_,[],h=>h.elim
theorem QM:∀{ns a:List Nat},Vd ns a→(∀j,j<ns.length→nth a j+1=nth ns j)→inc ns a=none
 |[],[],_,_=>rfl
 |n::ns,d::a,h,hm=>by
  have ih:=QM h.2 fun j hj=>hm (j+1) (by simpa using hj)
  have h0:=hm 0 (by simp)
  simp only[inc,ih];have:¬d+1<n:=by simp[nth]at h0;omega
  simp[this]
 |[],_::_,h,_=>h.elim
 |_::_,[],h,_=>h.elim
theorem aaE:∀{ns a:List Nat} {i:Nat},Vd ns a→i<ns.length→(∀j,i<j→j<ns.length→nth a j+1=nth ns j)→nth a i+1<nth ns i →
  inc ns a=some (a.take i++(nth a i+1)::List.replicate (ns.length-1-i) 0)
 |n::ns,d::a,0,h,_,hm,bB=>by
  have ih:=QM h.2 fun j hj=>hm (j+1) (by omega) (by simpa using hj)
  have hl:=D8 h.2;have:d+1<n:=by simpa [nth] using bB
  simp only[inc,ih,this,if_true];simp[nth,hl]
 |n::ns,d::a,i+1,h,hi,hm,bB=>by
  have pI:i<ns.length:=by simpa using hi
  have ih:=aaE h.2 pI (fun j h1 h2=>hm (j+1) (by omega) (by simpa using h2)) bB
  simp only[inc,ih];simp[nth];omega
 |[],[],_,_,hi,_,_=>by simp at hi
 |[],_::_,_,h,_,_,_=>h.elim
 |_::_,[],_,h,_,_,_=>h.elim
def eh(R:List (List Int))(a:List Nat):List Int:=List.zipWith (fun o k=>nth o k) R a
def Hx:List (List Int)→List Int→Prop
 |[],[]=>True
 |o::R,q::F=>q∈o∧Hx R F
 |_,_=>False
theorem QN:∀{R:List (List Int)} {a:List Nat},Vd (R.map List.length) a→Hx R (eh R a)
 |[],[],_=>trivial
 |o::R,d::a,h=>⟨rp h.1,QN h.2⟩
 |[],_::_,h=>h.elim
 |_::_,[],h=>h.elim
theorem QO:∀{R:List (List Int)} {F:List Int},Hx R F→∃a,Vd (R.map List.length) a∧eh R a=F
 |[],[],_=>⟨[],trivial,rfl⟩
 |o::R,q::F,h=>by
  obtain⟨a,h1,h2⟩:=QO h.2;obtain⟨d,h3,h4⟩:=D5 h.1;exact⟨d::a,⟨h3,h1⟩,by simp only[eh,List.zipWith_cons_cons]at h2 ⊢;rw[h2,h4]⟩
 |[],_::_,h=>h.elim
 |_::_,[],h=>h.elim
noncomputable def nf(us:List Un)(ss:List Us)(g:Int):List (List Int):=List.zipWith (fun u s=>tC u s g) us ss
theorem Hy{g:Int}:∀{us:List Un} {ss:List Us} {F:List Int},us.length=ss.length→(Hx (nf us ss g) F↔mh g us ss F)
 |[],[],[],_=>Iff.rfl
 |[],[],_::_,_=>Iff.rfl
 |[],_::_,_,h=>by simp at h
 |_::_,[],_,h=>by simp at h
 |_::_,_::_,[],_=>Iff.rfl
 |u::us,s::ss,q::F,h=>by
  have ih:=Hy (g:=g) (us:=us) (ss:=ss) (F:=F) (by simpa using h)
  show(q∈tC u s g∧Hx (nf us ss g) F)↔(q∈qo u s g∧mh g us ss F);rw[aaB,ih]
theorem amO{u:Un}{s:Us}{g:Int}(hv:e7 u s):0<(tC u s g).length:=by
 have:s.cg∈tC u s g:=by
  rw[aaB,D7];refine⟨.inr (.inr rfl),hv,?_⟩;obtain⟨hc,h1,h2⟩:=hv;unfold jN;split
  ·rename_i h;rw[h];intro h3;omega
  ·rename_i h
   rcases h2 with h2 | ⟨h2,h3⟩
   ·exact absurd h2 h
   ·exact⟨h2,fun h4=>h h4.1,h3⟩
 exact List.length_pos_of_mem this
def Kn(us:List Un)(ss:List Us)(R:List (List Int))(release:Int)(r:Nat):Option (List Int)→Prop
 |none=>∀b,Vd (R.map List.length) b→rk (R.map List.length) b<r→release<(eh R b).sum
 |some F=>(∃b,Vd (R.map List.length) b∧eh R b=F∧F.sum≤release) ∧
   ∀b,Vd (R.map List.length) b→rk (R.map List.length) b<r→(eh R b).sum≤release→¬jP (iH us (eh R b),iI ss (eh R b)) (iH us F,iI ss F) (eh R b) F
noncomputable def uL(us:List Un)(ss:List Us)(release:Int)(P:List Int):Option (List Int)→Option (List Int)
 |none=>if P.sum≤release then some P else none
 |some F=>if P.sum≤release then (if jP (iH us P,iI ss P) (iH us F,iI ss F) P F then some P else some F) else some F
theorem amP{us:List Un}{ss:List Us}{R:List (List Int)}{release:Int}{a:List Nat}(ha:Vd (R.map List.length) a){best:Option (List Int)}(h:Kn us ss R release (rk (R.map List.length) a) best) :
  Kn us ss R release (rk (R.map List.length) a+1) (uL us ss release (eh R a) best):=by
 have split:∀b,Vd (R.map List.length) b→rk (R.map List.length) b<rk (R.map List.length) a+1→rk (R.map List.length) b<rk (R.map List.length) a∨b=a:=fun b hb bB=>by
  rcases cF (rk (R.map List.length) b) (rk (R.map List.length) a) with h1|h1
  ·exact .inl h1
  ·exact .inr (aaC hb ha (by omega))
 cases best with
 |none =>
  unfold uL;by_cases hs:(eh R a).sum≤release
  ·simp only[hs,if_true]
   refine⟨⟨a,ha,rfl,hs⟩,fun b hb bB wi=>?_⟩;rcases split b hb bB with h1|rfl
   ·have:=h b hb h1;omega
   ·exact aaA
  ·simp only[hs,if_false]
   intro b hb bB;rcases split b hb bB with h1|rfl
   ·exact h b hb h1
   ·omega
 |some F =>
  obtain⟨h1,h2⟩:=h;unfold uL;by_cases hs:(eh R a).sum≤release
  ·simp only[hs,if_true]
   by_cases hb:jP (iH us (eh R a),iI ss (eh R a)) (iH us F,iI ss F) (eh R a) F
   ·simp only[hb,if_true]
    refine⟨⟨a,ha,rfl,hs⟩,fun b nC bB wi=>?_⟩;rcases split b nC bB with h3|rfl
    ·exact fun h4=>h2 b nC h3 wi (amG h4 hb)
    ·exact aaA
   ·simp only[hb,if_false]
    refine⟨h1,fun b nC bB wi=>?_⟩;rcases split b nC bB with h3|rfl
    ·exact h2 b nC h3 wi
    ·exact hb
  ·simp only[hs,if_false]
   refine⟨h1,fun b nC bB wi=>?_⟩;rcases split b nC bB with h3|rfl
   ·exact h2 b nC h3 wi
   ·omega
theorem aaF{us:List Un}{ss:List Us}{g release:Int}(hl:us.length=ss.length){best:Option (List Int)}(h:Kn us ss (nf us ss g) release (qu ((nf us ss g).map List.length)) best) :
  match best with
  |none=>∀F,mh g us ss F→release<F.sum
  |some F=>B7 g us ss release F:=by
 cases best with
 |none =>
  intro F hF;obtain⟨b,hb,rfl⟩:=QO ((Hy hl).2 hF);exact h b hb (D9 hb)
 |some F =>
  obtain⟨⟨b,hb,e,hs⟩,h2⟩:=h;refine⟨?_,hs,fun E hE hEs=>?_⟩
  ·rw[←e];exact(Hy hl).1 (QN hb)
  ·obtain⟨c,hc,rfl⟩:=QO ((Hy hl).2 hE)
   exact h2 c hc (D9 hc) hEs
end Go.Proofs.YtcelmhaoipbdiaaGreatDoor
