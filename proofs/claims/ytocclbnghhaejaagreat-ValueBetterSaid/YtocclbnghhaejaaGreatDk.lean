/- Parts of the proof, joined: Vbt2. -/
import Derived.Test.YtocclbnghhaejaaGreatDh
namespace Go.Proofs.YtocclbnghhaejaaGreat
set_option linter.all false
open Go.Vm
attribute [local simp] lQ lR kP lP
theorem QS:aX F 27 [] []=some (.bool true,[]):=zH.2 ⟨200,by kernel_rfl⟩
theorem aqb{s p:List Int}{c:Cs}{f:Fl}{a b:Pn}{l:List Sp}:rh s p c f a b l=0↔rh s p c f b a l=0:=by
 unfold rh
 repeat' split
 all_goals simp_all
theorem aqc{s p:List Int}{c:Cs}{f:Fl}{a b:Pn}{l:List Sp}:(uC s p c f a b l&&uC s p c f b a l)=false:=by
 rw[Bool.eq_false_iff];simp only[uC,ne_eq,Bool.and_eq_true,Bool.or_eq_true,decide_eq_true_eq];omega
theorem aqd{s p:List Int}{c:Cs}{f:Fl}{a:Pn}{l:List Sp}:uC s p c f a a l=false:=by
 rw[Bool.eq_false_iff];simp only[uC,ne_eq,Bool.and_eq_true,Bool.or_eq_true,decide_eq_true_eq];omega
abbrev QT(x:List Int×List Int):List V:=[ints x.1,ints x.2]
abbrev pn2(x:Pn×Pn):List V:=[i64 x.1.f,je x.1.l,i64 x.2.f,je x.2.l]
instance:Inhabited Pn:=⟨⟨0,[]⟩⟩
set_option maxRecDepth 100000 in
set_option maxHeartbeats 8000000 in
theorem aqf(t rs rp:List Int)(hl:t.length≤9223372036854775807):∃G',aX F 4 [ints t,tn rs rp] []=some (.bool true,G'):=by
 suffices h:gy (aX F) 4 [ints t,tn rs rp] [] fun v _=>v=.bool true by
  obtain⟨_,G,h,rfl⟩:=h;exact⟨G,h⟩
 refine gS rfl rfl ?_;by_cases h1:t.length≤500
 case neg=>simp +contextual (disch:=omega) [-getElem?_pos,-List.length_eq_zero_iff,-Int.natCast_eq_zero,wrap64,IN,QS,s8,h1]
 by_cases h2:400<IntKind.i64.wrap ((rs.length:Int)+rp.length)
 case pos=>simp +contextual (disch:=omega) [-getElem?_pos,-List.length_eq_zero_iff,-Int.natCast_eq_zero,wrap64,IN,QS,s8,h1,h2]
 obtain⟨c,f,k1,n1,gB,sy,iP,_⟩:=Qq (l:=t) (k:=0) ⟨by omega,hl⟩
 have hz:=sy.eH;have cv:=jZ hz;have kv:=j0 cv.k;have qU:=sy.small;have Qp:=sy.n;have hs3:=sy.s;have jc:=kv.n;obtain⟨m,k2,n2,eX,Ba,hm⟩:=fK gB 6 (by omega)
 obtain⟨m,rfl⟩:∃k:Nat,m=k:=⟨m.toNat,by omega⟩
 obtain⟨al,k3,n3,lT,ha⟩:=Hh eX (c:=c) (by omega) (by omega) f.t (n:=m) (by omega)
 obtain⟨bl,k4,n4,pE,hb⟩:=Hh lT (c:=c) (by omega) (by omega) f.t (n:=m) (by omega)
 obtain⟨q,k5,n5,xU,hq,Ea⟩:=abr pE (c:=c) (by omega) (by omega) (n:=m) (by omega)
 obtain⟨s,p,k6,n6,zY⟩:=abS xU;obtain⟨ll,k7,n7,Y1,ky⟩:=Hh zY (c:=c) (by omega) (by omega) (f.t+1) (n:=m) (by omega)
 have vF:=iP.1;have KN:∀k,k<q.length→(nth q k).a.length≤1000∧(nth q k).b.length≤1000:=fun k hk=>by
  have:=(Ea k (by omega)).1
  unfold mj at this;omega
 have hV:=fun(x y:List Int) (a b:Pn)=>abW x y qU (yF cv.k iP) a b q [];have hR:=fun(x y:List Int) (a b:Pn)=>ap4 x y qU (yF cv.k iP) a b q KN [];simp only[cs,Cs.row,qe,lW,m7,fl,Fl.row,sv,Sp.row,ints,List.map_nil]at hV hR;simp +contextual (disch:=omega) [-getElem?_pos,-List.length_eq_zero_iff,-Int.natCast_eq_zero,wrap64,IN,QS,s8,h1,h2,F6,n1,n2,n3,n4,n5,n6,n7];obtain⟨ts,qq⟩:∃ts:List (List Int×List Int),ts=[(rs,rp),(s,p)]:=⟨_,rfl⟩;have D7:ts.length=2:=by rw[qq];rfl
 refine go_loop (fun i:Nat=>agm (lW q) (.slice none 2 (ts.map QT)) 2 i c.row f.row [i64 f.t,je al] [i64 f.t,je bl] [ints s,ints p] [i64 (f.t+1),je ll] [dk t k7]) (fun i=>i≤2) (fun i=>2-i) 0 rfl (by simp[qq]) (by omega) ?_
 intro i hi;simp +contextual (disch:=omega) [-getElem?_pos,-List.length_eq_zero_iff,-Int.natCast_eq_zero,wrap64,UH];refine bE (fun h3=>?_) (fun h3=>?_)
 ·have h3:i<ts.length:=by omega
  obtain⟨qs,hqss⟩:∃qs:List (Pn×Pn),qs=[(⟨f.t,al⟩,⟨f.t,bl⟩),(⟨f.t,al⟩,⟨f.t+1,ll⟩),(⟨f.t+1,ll⟩,⟨f.t,al⟩)]:=⟨_,rfl⟩;have awD:qs.length=3:=by rw[hqss];rfl
  simp +contextual (disch:=omega) [-getElem?_pos,-List.length_eq_zero_iff,-Int.natCast_eq_zero,wrap64,a8 (l:=ts)];generalize nth ts i=u;refine go_loop (fun j:Nat=>agj (lW q) (.slice none 2 (ts.map QT)) 2 i (.slice none 4 (qs.map pn2)) 3 j c.row f.row [i64 f.t,je al] [i64 f.t,je bl] [ints s,ints p] [i64 (f.t+1),je ll] (QT u) [dk t k7]) (fun j=>j≤3) (fun j=>3-j) 0 rfl (by simp[hqss]) (by omega) ?_
  intro j hj;simp +contextual (disch:=omega) [-getElem?_pos,-List.length_eq_zero_iff,-Int.natCast_eq_zero,wrap64,UG];refine bE (fun h4=>?_) (fun h4=>?_)
  ·have h4:j<qs.length:=by omega
   have e1:=hV u.1 u.2 (nth qs j).1 (nth qs j).2;have e2:=hR u.1 u.2 (nth qs j).1 (nth qs j).2;unfold yJ at e1 e2;generalize (decide (rh u.1 u.2 c f (nth qs j).1 (nth qs j).2 q=0)&&uC u.1 u.2 c f (nth qs j).1 (nth qs j).2 q)=b at e1 e2;generalize rh u.1 u.2 c f (nth qs j).1 (nth qs j).2 q=e at e1 e2;simp +contextual (disch:=omega) [-getElem?_pos,-List.length_eq_zero_iff,-Int.natCast_eq_zero,wrap64,a8 (l:=qs),e1,e2];exact bF (j+1) (by simp) (by omega) (by omega)
  ·obtain rfl:j=3:=by omega
   exact bF (i+1) (by simp) (by omega) (by omega)
 ·obtain rfl:i=2:=by omega
  have e1:=hV s p ⟨f.t,al⟩ ⟨f.t,bl⟩;have e2:=hV s p ⟨f.t,bl⟩ ⟨f.t,al⟩;have e3:=hV s p ⟨f.t,al⟩ ⟨f.t,al⟩;unfold yJ at e1 e2 e3;have y1:=aqb (s:=s) (p:=p) (c:=c) (f:=f) (a:=⟨f.t,al⟩) (b:=⟨f.t,bl⟩) (l:=q);have y2:=aqc (s:=s) (p:=p) (c:=c) (f:=f) (a:=⟨f.t,al⟩) (b:=⟨f.t,bl⟩) (l:=q);rw[aqd,Bool.and_false]at e3;generalize uC s p c f ⟨f.t,al⟩ ⟨f.t,bl⟩ q=b1 at *;generalize uC s p c f ⟨f.t,bl⟩ ⟨f.t,al⟩ q=b2 at *;generalize rh s p c f ⟨f.t,al⟩ ⟨f.t,bl⟩ q=x1 at *;generalize rh s p c f ⟨f.t,bl⟩ ⟨f.t,al⟩ q=x2 at *;generalize rh s p c f ⟨f.t,al⟩ ⟨f.t,al⟩ q=x3 at *;by_cases g:x1=0
  ·have g2:=y1.1 g
   rw[g]at e1;rw[g2]at e2;cases b1<;>cases b2
   ·simp +contextual (disch:=omega) [-getElem?_pos,-List.length_eq_zero_iff,-Int.natCast_eq_zero,wrap64,e1,e2,e3]
   ·simp +contextual (disch:=omega) [-getElem?_pos,-List.length_eq_zero_iff,-Int.natCast_eq_zero,wrap64,e1,e2,e3]
   ·simp +contextual (disch:=omega) [-getElem?_pos,-List.length_eq_zero_iff,-Int.natCast_eq_zero,wrap64,e1,e2,e3]
   ·cases y2
  ·have g2:¬ x2=0:=fun h=>g (y1.2 h)
   rw[decide_eq_false g]at e1;rw[decide_eq_false g2]at e2;simp +contextual (disch:=omega) [-getElem?_pos,-List.length_eq_zero_iff,-Int.natCast_eq_zero,wrap64,e1,e2,e3,g,g2]
end Go.Proofs.YtocclbnghhaejaaGreat
