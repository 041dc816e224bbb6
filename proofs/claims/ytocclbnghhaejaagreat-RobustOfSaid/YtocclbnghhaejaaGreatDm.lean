/- Parts of the proof, joined: Rof3, Rof4, Raw1, Raw2, Raw3, Raw4. -/
import Derived.Test.YtocclbnghhaejaaGreatDi
import Derived.Test.YtocclbnghhaejaaGreatDh
import Derived.Test.YtocclbnghhaejaaGreatDe
import Derived.Test.YtocclbnghhaejaaGreatDf
namespace Go.Proofs.YtocclbnghhaejaaGreat
set_option linter.all false
open Go.Vm
attribute [local simp] lQ lR kP lP
theorem aBB{c:Cs}(hr:gW c.r)(b:mD)(node:Int)(base:List Sp)(hb:∀p∈base,pq p)(G:List aP):aX F 50 [cs c,yA b,i64 node,lW base] G=some (Ho (some 0) c b node base,G) :=
 bM rfl rfl (by
  generalize hW:Ho (some 0) c b node base=W;unfold Ho Hf at hW;have h0:=fun G=>BX c hr G;have h1:=fun G=>awE b G;by_cases a1:ew c=0
  case neg =>
   simp only[if_pos a1,if_neg a1]at hW;simp +contextual (disch:=omega) [-getElem?_pos,-List.length_eq_zero_iff,-Int.natCast_eq_zero,wrap64,Iy,h0,a1];exact hW
  simp only[if_neg (show ¬ ew c≠0 from fun g=>g a1)]at hW;by_cases a2:oX b=0
  case neg =>
   simp only[if_pos a2,if_neg a2]at hW;simp +contextual (disch:=omega) [-getElem?_pos,-List.length_eq_zero_iff,-Int.natCast_eq_zero,wrap64,Iy,h0,a1,h1,a2];exact hW
  simp only[if_neg (show ¬ oX b≠0 from fun g=>g a2)]at hW;have bv:=adE a2;cases a3:b.w with
  |true =>
   have h1:∀G,aX F 52 [.agg [i64 b.t,j7 b.s,.bool true]] G=some (i64 (oX b),G):=fun G=>by
    have:=h1 G;simp only[yA,mD.row,a3]at this;exact this
   simp only[a3,if_true,if_neg (show ¬ (9:Int)=0 by omega)]at hW
   simp +contextual (disch:=omega) [-getElem?_pos,-List.length_eq_zero_iff,-Int.natCast_eq_zero,wrap64,Iy,h0,a1,h1,a2,a3];exact hW
  |false =>
  have h1:∀G,aX F 52 [.agg [i64 b.t,j7 b.s,.bool false]] G=some (i64 (oX b),G):=fun G=>by
   have:=h1 G;simp only[yA,mD.row,a3]at this;exact this
  simp only[a3,if_neg (show ¬ (false=true) by simp)]at hW
  by_cases a4:node<0∨c.r.n≤node
  ·simp only[if_pos a4,if_neg (show ¬ (41:Int)=0 by omega)]at hW
   by_cases a5:node<0
   ·simp +contextual (disch:=omega) [-getElem?_pos,-List.length_eq_zero_iff,-Int.natCast_eq_zero,wrap64,Iy,h0,a1,h1,a2,a3,a5]
    exact hW
   ·have a6:c.r.n≤node:=by omega
    simp +contextual (disch:=omega) [-getElem?_pos,-List.length_eq_zero_iff,-Int.natCast_eq_zero,wrap64,Iy,h0,a1,h1,a2,a3,a5,a6];exact hW
  simp only[if_neg a4]at hW;have a5:¬ node<0:=by omega
  have a6:¬ c.r.n≤node:=by omega
  obtain⟨k,rfl⟩:∃k:Nat,node=k:=⟨node.toNat,by omega⟩
  have f0:=bv.jo.1;by_cases a7:base.length=(nth b.s 0).f.length
  case neg =>
   simp only[if_pos a7,if_neg (show ¬ (3:Int)=0 by omega)]at hW
   have HR:¬ (base.length:Int)=(nth b.s 0).f.length:=by omega
   simp +contextual (disch:=omega) [-getElem?_pos,-List.length_eq_zero_iff,-Int.natCast_eq_zero,wrap64,Iy,h0,a1,h1,a2,a3,a5,a6,aW (l:=b.s),HR];exact hW
  simp only[if_neg (show ¬ base.length≠(nth b.s 0).f.length from fun g=>g a7)]at hW;have HR:(base.length:Int)=(nth b.s 0).f.length:=by omega
  have hl:base.length≤1000:=by have:=bv.n;omega
  have aDH:=bv.jo;simp +contextual (disch:=omega) [-getElem?_pos,-List.length_eq_zero_iff,-Int.natCast_eq_zero,wrap64,Iy,h0,a1,h1,a2,a3,a5,a6,aW (l:=b.s),HR];refine go_loop (fun i:Nat=>ayN k (lW base) (lW base) base.length i c.row b.row G) (fun i=>i≤base.length∧tW c.r.n (base.drop i)=tW c.r.n base) (fun i=>base.length-i) 0 rfl (by simp[HR]) (by simp) ?_
  rintro i ⟨hi,hq⟩;simp +contextual (disch:=omega) [-getElem?_pos,-List.length_eq_zero_iff,-Int.natCast_eq_zero,wrap64,aur];refine bE (fun h=>?_) (fun h=>?_)
  ·have h:i<base.length:=by omega
   rw[mc h]at hq;by_cases h6:((nth base i).a.length:Int)=c.r.n
   ·have:tW c.r.n (nth base i::base.drop (i+1))=tW c.r.n (base.drop (i+1)):=by simp[tW,h6]
    rw[this]at hq;simp +contextual (disch:=omega) [-getElem?_pos,-List.length_eq_zero_iff,-Int.natCast_eq_zero,wrap64,aW (l:=base),h6];exact bF (i+1) (by simp) ⟨by omega,hq⟩ (by omega)
   ·have:tW c.r.n (nth base i::base.drop (i+1))=true:=by simp[tW,h6]
    rw[this]at hq;simp only[←hq,if_true,if_neg (show ¬ (3:Int)=0 by omega)]at hW
    simp +contextual (disch:=omega) [-getElem?_pos,-List.length_eq_zero_iff,-Int.natCast_eq_zero,wrap64,aW (l:=base),h6];exact hW
  obtain rfl:i=base.length:=by omega
  rw[List.drop_length]at hq;have a8:tW c.r.n base=false:=by rw[←hq];rfl
  have hla:=awF a8;simp only[a8,if_neg (show ¬ (false=true) by simp),if_true,Int.toNat_natCast]at hW
  refine go_loop (fun i:Nat=>ayT k (lW base) (.slice (some 1111) 2 (((b.s.take i).map (ld k base)).map Wd.row)) (j7 b.s) b.s.length i i G) (fun i=>i≤b.s.length) (fun i=>b.s.length-i) 0 rfl (by simp) (by omega) ?_
  intro i hi;simp +contextual (disch:=omega) [-getElem?_pos,-List.length_eq_zero_iff,-Int.natCast_eq_zero,wrap64,auD];refine bE (fun h=>?_) (fun h=>?_)
  case refine_2 =>
   obtain rfl:i=b.s.length:=by omega
   rw[List.take_of_length_le (by simp)]
   simpa using hW
  have h:i<b.s.length:=by omega
  have iP:=(bv.s i h).2;have hT:List.take (i+1) (b.s.map (Wd.row∘ld k base))=List.take i (b.s.map (Wd.row∘ld k base))++[(ld k base (nth b.s i)).row]:=by rw[jI (by simpa using h),wF h];rfl
  have ZA:(List.take i (b.s.map (Wd.row∘ld k base))).length=i:=by simp;omega
  simp +contextual (disch:=omega) [-getElem?_pos,-List.length_eq_zero_iff,-Int.natCast_eq_zero,wrap64,aW (l:=b.s)];obtain⟨R,hR⟩:∃R,List.take i (b.s.map (Wd.row∘ld k base))=R:=⟨_,rfl⟩;obtain⟨x,hx⟩:∃x,nth b.s i=x:=⟨_,rfl⟩;rw[hx]at iP hT;rw[hR]at hT ZA;rw[hx,hR];refine go_loop (fun j:Nat=>ayP k (lW base) (.slice (some 1111) 2 R) (j7 b.s) b.s.length i (lW base) base.length j x.row [i64 x.w,.slice (some 1105) 3 ((List.range j).map (Sp.row∘fun i=>tI k (nth x.f i) (nth base i)))] j i G) (fun j=>j≤base.length) (fun j=>base.length-j) 0 rfl (by simp) (by omega) ?_
  intro j hj;simp +contextual (disch:=omega) [-getElem?_pos,-List.length_eq_zero_iff,-Int.natCast_eq_zero,wrap64,auC];refine bE (fun h2=>?_) (fun h2=>?_)
  ·have h2:j<base.length:=by omega
   have hk:=hla j h2;have hbj:=hb _ (oK h2);have e3:(List.range (j+1)).map (Sp.row∘fun i=>tI k (nth x.f i) (nth base i))=(List.range j).map (Sp.row∘fun i=>tI k (nth x.f i) (nth base i))++[(tI k (nth x.f j) (nth base j)).row]:=by simp[List.range_succ]
   have e4:((List.range j).map (Sp.row∘fun i=>tI k (nth x.f i) (nth base i))).length=j:=by simp
   generalize (List.range j).map (Sp.row∘fun i=>tI k (nth x.f i) (nth base i))=C at *;have g2:=aW (l:=base) h2;obtain⟨p,hp⟩:∃p,nth base j=p:=⟨_,rfl⟩;rw[hp]at hk hbj e3 g2;obtain⟨pa,pb,pc⟩:=p;obtain⟨b1,b2,b3⟩:=hbj;simp only at b1 b2 b3 hk;have aDJ:=(jZ a1).n;have lM:pa.length≤4294967296:=by omega
   have gM:0<pa.length:=by omega
   have HC:k<pa.length:=by omega
   have hjf:j<x.f.length:=by omega
   have hem:pa.isEmpty=false:=by cases pa with|nil=>simp at gM|cons=>rfl
   have jL:kr [none] (chunks 1 (dM (pa.set k (nth x.f j))) 0 pa.length)=some ((pa.set k (nth x.f j)).map fun n=>[V.int .i64 n]):=MD (by simp)
   simp +contextual (disch:=omega) [-getElem?_pos,-List.length_eq_zero_iff,-Int.natCast_eq_zero,wrap64,g2,hem,gM,dj (l:=x.f),lx,e4,jL,lM];exact bF (j+1) (by simp[e3]<;>simp[tI]) (by omega) (by omega)
  ·obtain rfl:j=base.length:=by omega
   simp +contextual (disch:=omega) [-getElem?_pos,-List.length_eq_zero_iff,-Int.natCast_eq_zero,wrap64,ZA];exact bF (i+1) (by simp[hT,ld]) (by omega) (by omega))
theorem aw4(l:List Wd)(hl:l.length≤1000)(hw:∀i,i<l.length→(nth l i).s.length≤1000∧∀p∈(nth l i).s,pq p)(G:List aP) :
  aX F 51 [jP l,jP l] G=some (.bool true,G) :=
 bM rfl rfl (by
  simp +contextual (disch:=omega) [-getElem?_pos,-List.length_eq_zero_iff,-Int.natCast_eq_zero,wrap64,auG];refine go_loop (fun k:Nat=>ayX (jP l) (jP l) l.length k G) (fun k=>k≤l.length) (fun k=>l.length-k) 0 rfl (by simp) (by omega) ?_
  intro k hk;simp +contextual (disch:=omega) [-getElem?_pos,-List.length_eq_zero_iff,-Int.natCast_eq_zero,wrap64,auF];refine bE (fun h=>?_) (fun h=>?_)
  case refine_2=>trivial
  have h:k<l.length:=by omega
  obtain⟨h1,h2⟩:=hw k h;simp +contextual (disch:=omega) [-getElem?_pos,-List.length_eq_zero_iff,-Int.natCast_eq_zero,wrap64,aW (l:=l)];refine go_loop (fun j:Nat=>ayV (jP l) (jP l) k l.length k (nth l k).s.length j G) (fun j=>j≤(nth l k).s.length) (fun j=>(nth l k).s.length-j) 0 rfl (by simp) (by omega) ?_
  intro j hj;simp +contextual (disch:=omega) [-getElem?_pos,-List.length_eq_zero_iff,-Int.natCast_eq_zero,wrap64,auE];refine bE (fun h3=>?_) (fun h3=>?_)
  ·have h3:j<(nth l k).s.length:=by omega
   obtain⟨b1,b2,b3⟩:=h2 _ (oK h3);have i1:=fun G=>af5 _ b1 G;have i2:=fun G=>af5 _ b2 G;have i3:=fun G=>af5 _ b3 G;simp +contextual (disch:=omega) [-getElem?_pos,-List.length_eq_zero_iff,-Int.natCast_eq_zero,wrap64,aW (l:=l),aW (l:=(nth l k).s),i1,i2,i3];exact bF (j+1) (by simp) (by omega) (by omega)
  ·exact bF (k+1) (by simp) (by omega) (by omega))
instance:Inhabited mD:=⟨⟨0,[],false⟩⟩
theorem aBD{c:Cs}{b:mD}{node:Int}{base:List Sp}(h:Hf c b node base=0):oX b=0∧base.length≤1000:=by
 unfold Hf at h;split at h
 ·rename_i g;exact absurd h g
 split at h
 ·rename_i g;exact absurd h g
 rename_i g1 g2;have bv:=adE (Decidable.of_not_not g2);split at h
 ·cases h
 split at h
 ·cases h
 split at h
 ·cases h
 rename_i g3;have:=bv.n;exact⟨Decidable.of_not_not g2,by omega⟩
theorem Sw.b{c:Cs}{p:Sp}(hc:c.r.n≤40)(hs:c.s.length≤40)(h:Sw c p):pq p:=by
 have:=h.1;unfold mj at this;unfold pq;omega
theorem aBE{k:Nat}{base:List Sp}(hb:∀p∈base,pq p)(x:Sc):∀p∈(ld k base x).s,pq p:=fun p hp=>by
 obtain⟨i,hi,rfl⟩:=List.mem_map.1 hp;have:=hb _ (oK (List.mem_range.1 hi));unfold pq at this ⊢;simpa [tI] using this
set_option maxRecDepth 100000 in
set_option maxHeartbeats 8000000 in
theorem aBF{t:List Int}(hl:t.length≤9223372036854775807)(raw:mD)(node:Int)(base:List Sp)(hr:raw.s.length≤17592186044416)(DS:base.length≤17592186044416)(hb:∀p∈base,pq p) :
  ∃G',aX F 9 [ints t,yA raw,i64 node,lW base] []=some (.bool true,G'):=by
 suffices h:gy (aX F) 9 [ints t,yA raw,i64 node,lW base] [] fun v _=>v=.bool true by
  obtain⟨_,G,h,rfl⟩:=h;exact⟨G,h⟩
 refine gS rfl rfl ?_;simp +contextual (disch:=omega) [-getElem?_pos,-List.length_eq_zero_iff,-Int.natCast_eq_zero,wrap64,ar4,CW];refine go_loop (fun x:Nat×Int=>ayc (ints t) node (lW base) x.2 (lW base) base.length x.1 raw.row []) (fun x=>x.1≤base.length) (fun x=>base.length-x.1) (0,base.length) rfl (by simp) (by simp) ?_
 rintro⟨i,n⟩ hi;simp only at hi;simp +contextual (disch:=omega) [-getElem?_pos,-List.length_eq_zero_iff,-Int.natCast_eq_zero,wrap64,arZ];refine bE (fun h=>?_) (fun h=>?_)
 ·have h:i<base.length:=by omega
  simp +contextual (disch:=omega) [-getElem?_pos,-List.length_eq_zero_iff,-Int.natCast_eq_zero,wrap64,aW (l:=base)];exact bF (i+1,_) (by simp;rfl) (by simp;omega) (by simp;omega)
 refine go_loop (fun x:Nat×Int=>aye (ints t) node (lW base) x.2 (j7 raw.s) raw.s.length x.1 raw.row []) (fun x=>x.1≤raw.s.length) (fun x=>raw.s.length-x.1) (0,n) rfl (by simp) (by simp) ?_
 rintro⟨i,n⟩ hi;simp only at hi;simp +contextual (disch:=omega) [-getElem?_pos,-List.length_eq_zero_iff,-Int.natCast_eq_zero,wrap64,ar0];refine bE (fun h=>?_) (fun h=>?_)
 ·have h:i<raw.s.length:=by omega
  simp +contextual (disch:=omega) [-getElem?_pos,-List.length_eq_zero_iff,-Int.natCast_eq_zero,wrap64,aW (l:=raw.s)];exact bF (i+1,_) (by simp;rfl) (by simp;omega) (by simp;omega)
 by_cases h1:t.length≤500
 case neg=>simp +contextual (disch:=omega) [-getElem?_pos,-List.length_eq_zero_iff,-Int.natCast_eq_zero,wrap64,s8,h1]
 by_cases h2:600<n
 case pos=>simp +contextual (disch:=omega) [-getElem?_pos,-List.length_eq_zero_iff,-Int.natCast_eq_zero,wrap64,s8,h1,h2]
 obtain⟨c,f,k1,n1,gB,sy,iP,_⟩:=Qq (l:=t) (k:=0) ⟨by omega,hl⟩
 have hz:=sy.eH;have cv:=jZ hz;have kv:=j0 cv.k;have qU:=sy.small;have Qp:=sy.n;have hs3:=sy.s;have jc:=kv.n;obtain⟨b,k2,n2,eX,zB,hbf⟩:=awH gB;have hb7:=hbf 0 zB;obtain⟨made,k3,n3,lT,hm,hms⟩:=abr eX (c:=c) (by omega) (by omega) (n:=(nth b.s 0).f.length) (by omega)
 have hmb:∀p∈made,pq p:=fun p hp=>by
  obtain⟨j,hj,rfl⟩:=List.mem_iff_getElem.1 hp;have:=hms j (by omega)
  rw[show nth made j=made[j] by simp[nth,List.getD,hj]]at this
  exact this.b (by omega) (by omega)
 have hM:=fun G=>YE (n:=node) (m:=c.r.n) (by omega) G
 simp +contextual (disch:=omega) [-getElem?_pos,-List.length_eq_zero_iff,-Int.natCast_eq_zero,wrap64,s8,h1,h2,F6,n1,n2,aW (l:=b.s),zB,n3];obtain⟨xs,EW⟩:∃xs:List mD,xs=[raw,b]:=⟨_,rfl⟩;have Cj:xs.length=2:=by rw[EW];rfl
 refine go_loop (fun i:Nat=>ayk node (lW base) (lW made) (.slice none 3 (xs.map mD.row)) 2 i c.row [dk t k3]) (fun i=>i≤2) (fun i=>2-i) 0 rfl (by simp[EW]) (by omega) ?_
 intro i hi;simp +contextual (disch:=omega) [-getElem?_pos,-List.length_eq_zero_iff,-Int.natCast_eq_zero,wrap64,ar3];refine bE (fun h4=>?_) (fun h4=>?_)
 case refine_2=>trivial
 have h4:i<xs.length:=by omega
 simp +contextual (disch:=omega) [-getElem?_pos,-List.length_eq_zero_iff,-Int.natCast_eq_zero,wrap64,aW (l:=xs),hM];generalize nth xs i=x;obtain⟨ns,Te⟩:∃ns:List Int,ns=[node,By node c.r.n]:=⟨_,rfl⟩;have rQ:ns.length=2:=by rw[Te];rfl
 refine go_loop (fun j:Nat=>ayi node (lW base) (lW made) (.slice none 3 (xs.map mD.row)) 2 i (ints ns) 2 j c.row x.row [dk t k3]) (fun j=>j≤2) (fun j=>2-j) 0 rfl (by simp[Te]) (by omega) ?_
 intro j hj;simp +contextual (disch:=omega) [-getElem?_pos,-List.length_eq_zero_iff,-Int.natCast_eq_zero,wrap64,ar2];refine bE (fun h5=>?_) (fun h5=>?_)
 case refine_2=>exact bF (i+1) (by simp) (by omega) (by omega)
 have h5:j<ns.length:=by omega
 simp +contextual (disch:=omega) [-getElem?_pos,-List.length_eq_zero_iff,-Int.natCast_eq_zero,wrap64,dj (l:=ns)];generalize nth ns j=nd;obtain⟨ls,BS⟩:∃ls:List (List Sp),ls=[base,made]:=⟨_,rfl⟩;have ky:ls.length=2:=by rw[BS];rfl
 have BO:∀i,i<2→∀p∈nth ls i,pq p:=fun i hi=>by
  rcases (by omega:i=0∨i=1) with rfl|rfl
  ·rw[BS];exact hb
  ·rw[BS];exact hmb
 refine go_loop (fun m:Nat=>ayg node (lW base) (lW made) nd (.slice none 3 (xs.map mD.row)) 2 i (ints ns) 2 j (.slice none 1 (ls.map fun l=>[lW l])) 2 m c.row x.row [dk t k3]) (fun m=>m≤2) (fun m=>2-m) 0 rfl (by simp[BS]) (by omega) ?_
 intro m hm2;simp +contextual (disch:=omega) [-getElem?_pos,-List.length_eq_zero_iff,-Int.natCast_eq_zero,wrap64,ar1];refine bE (fun h6=>?_) (fun h6=>?_)
 case refine_2=>exact bF (j+1) (by simp) (by omega) (by omega)
 have h6:m<ls.length:=by omega
 have BO:=BO m (by omega)
 obtain⟨G1,r1⟩:=awG qU x nd (nth ls m) BO;have r2:=aBB qU x nd (nth ls m) BO [];unfold Ho at r1 r2;by_cases h7:Hf c x nd (nth ls m)=0
 ·rw[if_pos h7]at r1 r2
  obtain⟨g1,g2⟩:=aBD h7;have bv:=adE g1;have hS:=aw4 (x.s.map (ld nd.toNat (nth ls m))) (by have:=bv.jo;simp;omega) (fun i hi=>by
   rw[wF (by simpa using hi)]
   exact⟨by simp[ld];exact g2,aBE BO _⟩) []
  simp only[jP,List.map_map]at hS r1 r2;simp +contextual (disch:=omega) [-getElem?_pos,-List.length_eq_zero_iff,-Int.natCast_eq_zero,wrap64,aW (l:=ls),r1,r2,hS];exact bF (m+1) (by simp) (by omega) (by omega)
 ·rw[if_neg h7]at r1 r2
  have hS:=aw4 [] (by simp) (by simp) []
  simp only[jP,List.map_nil]at hS;simp +contextual (disch:=omega) [-getElem?_pos,-List.length_eq_zero_iff,-Int.natCast_eq_zero,wrap64,aW (l:=ls),r1,r2,hS];exact bF (m+1) (by simp) (by omega) (by omega)
end Go.Proofs.YtocclbnghhaejaaGreat
namespace Go.Proofs.YtocclbnghhaejaaGreat
set_option linter.all false
open Go.Vm
open Go.ChangeShapes Go.WideShapes Go.ChangeAt Go.RowKit
end Go.Proofs.YtocclbnghhaejaaGreat
namespace Go.Proofs.YtocclbnghhaejaaGreat
set_option linter.all false
open Go.Vm
open Go.ChangeShapes Go.WideShapes Go.ChangeAt Go.RowKit
end Go.Proofs.YtocclbnghhaejaaGreat
namespace Go.Proofs.YtocclbnghhaejaaGreat
set_option linter.all false
open Go.Vm
theorem abH{H:Type}{d:Nat}{vs:List V}{x:DataW H}(h:oH Tryz.prog d 22 vs x):∃l:List Int,vs=[ints l]∧l.length≤17592186044416:=by
 obtain⟨l,h2,_,w2⟩:=A5 (e:=3) (fun n:Int=>[i64 n]) (fun _=>True) (by kernel_rfl) (fun d vs x h=>by
  obtain⟨n,e,_⟩:=Ff (k:=.i64) (by kernel_rfl) h.1
  exact⟨n,e,trivial⟩) h
 have c2:Tryz.prog.cellsOf 3=1:=by kernel_rfl
 have b2:Tryz.prog.bytesOf 3=8:=by kernel_rfl
 rw[b2]at w2;unfold reachBytes at w2;rw[c2]at h2;exact⟨l,h2,by omega⟩
end Go.Proofs.YtocclbnghhaejaaGreat
namespace Go.Proofs.YtocclbnghhaejaaGreat
set_option linter.all false
open Go.Vm
theorem aBI{H:Type}{d:Nat}{vs:List V}{x:DataW H}(h:oH Tryz.prog d 85 vs x):∃p:Sp,vs=p.row∧pq p:=by
 have hl:=ajU (n:=3) (by kernel_rfl) h.1
 obtain⟨_,_,g0⟩:=vl (i:=0) (off:=0) (n:=1) (ty:=22) (by kernel_rfl) h
 obtain⟨a0,h0,w0⟩:=abH g0;obtain⟨_,_,g1⟩:=vl (i:=1) (off:=1) (n:=1) (ty:=22) (by kernel_rfl) h
 obtain⟨a1,h1,w1⟩:=abH g1;obtain⟨_,_,g2⟩:=vl (i:=2) (off:=2) (n:=1) (ty:=22) (by kernel_rfl) h
 obtain⟨a2,h2,w2⟩:=abH g2
 match vs,hl with
 |[b0,b1,b2],_ =>
  simp at h0 h1 h2;subst h0;subst h1;subst h2;exact⟨⟨a0,a1,a2⟩,rfl,w0,w1,w2⟩
theorem aBJ{H:Type}{d:Nat}{vs:List V}{x:DataW H}(h:oH Tryz.prog d 68 vs x):∃l:List Sp,vs=[lW l]∧(∀p∈l,pq p)∧l.length≤17592186044416:=by
 obtain⟨l,h1,i1,w1⟩:=A5 (e:=85) Sp.row pq (by kernel_rfl) (fun d vs x h=>aBI h) h
 have c1:Tryz.prog.cellsOf 85=3:=by kernel_rfl
 have b1:Tryz.prog.bytesOf 85=72:=by kernel_rfl
 rw[b1]at w1;unfold reachBytes at w1;rw[c1]at h1;exact⟨l,h1,i1,by omega⟩
theorem aBK{H:Type}{d:Nat}{vs:List V}{x:DataW H}(h:oH Tryz.prog d 116 vs x):∃w:Sc,vs=w.row∧True:=by
 have hl:=ajU (n:=2) (by kernel_rfl) h.1
 obtain⟨a0,h0,_⟩:=kd (i:=0) (off:=0) (ty:=3) (k:=.i64) (by kernel_rfl) (by kernel_rfl) h.1
 obtain⟨_,_,g1⟩:=vl (i:=1) (off:=1) (n:=1) (ty:=22) (by kernel_rfl) h
 obtain⟨l,h1,w1⟩:=abH g1
 match vs,hl with
 |[b0,b1],_ =>
  simp at h0 h1;subst h0;subst h1;exact⟨⟨a0,l⟩,rfl,trivial⟩
theorem aBL{H:Type}{d:Nat}{vs:List V}{x:DataW H}(h:oH Tryz.prog d 114 vs x):∃b:mD,vs=b.row∧b.s.length≤17592186044416:=by
 have hl:=ajU (n:=3) (by kernel_rfl) h.1
 obtain⟨a0,h0,_⟩:=kd (i:=0) (off:=0) (ty:=3) (k:=.i64) (by kernel_rfl) (by kernel_rfl) h.1
 obtain⟨_,_,g1⟩:=vl (i:=1) (off:=1) (n:=1) (ty:=112) (by kernel_rfl) h
 obtain⟨_,_,g2⟩:=sW (i:=2) (off:=2) (n:=1) (ty:=4) (by kernel_rfl) h.1
 obtain⟨l,h1,_,w1⟩:=A5 (e:=116) Sc.row (fun _=>True) (by kernel_rfl) (fun d vs x h=>aBK h) g1
 obtain⟨a2,h2⟩:=Ty (by kernel_rfl) g2
 have c1:Tryz.prog.cellsOf 116=2:=by kernel_rfl
 have b1:Tryz.prog.bytesOf 116=32:=by kernel_rfl
 rw[b1]at w1;unfold reachBytes at w1;rw[c1]at h1
 match vs,hl with
 |[b0,b1,b2],_ =>
  simp at h0 h1 h2;subst h0;subst h1;subst h2;exact⟨⟨a0,l,a2⟩,rfl,by simp only;omega⟩
end Go.Proofs.YtocclbnghhaejaaGreat
