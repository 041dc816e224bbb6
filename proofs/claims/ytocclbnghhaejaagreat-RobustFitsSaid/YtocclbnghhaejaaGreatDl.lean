/- Parts of the proof, joined: Rft1. -/
import Derived.Test.YtocclbnghhaejaaGreatDi
import Derived.Test.YtocclbnghhaejaaGreatDh
namespace Go.Proofs.YtocclbnghhaejaaGreat
set_option linter.all false
open Go.Vm
attribute [local simp] lQ lR kP lP
theorem aBr{α:Type}[Inhabited α]{f:Nat→α}{n i:Nat}(h:i<n):nth ((List.range n).map f) i=f i:=by simp[nth,List.getD,h]
theorem aBs{a m:Int}(ha:0≤a)(hm:0<m):∃i:Nat,a.tmod m=i∧(i:Int)<m:=by
 have h1:=Int.tmod_nonneg m ha;have h2:=Int.tmod_lt_of_pos a hm;exact⟨(a.tmod m).toNat,by omega,by omega⟩
set_option maxRecDepth 100000 in
set_option maxHeartbeats 8000000 in
theorem aBt{t:List Int}(hl:t.length≤9223372036854775807){node:Int}(R3:0≤node∧node≤255):∃G',aX F 10 [ints t,.int .u8 node] []=some (.bool true,G'):=by
 suffices h:gy (aX F) 10 [ints t,.int .u8 node] [] fun v _=>v=.bool true by
  obtain⟨_,G,h,rfl⟩:=h;exact⟨G,h⟩
 refine gS rfl rfl ?_;by_cases h1:t.length≤500
 case neg=>simp +contextual (disch:=omega) [-getElem?_pos,-List.length_eq_zero_iff,-Int.natCast_eq_zero,wrap64,abB,CW,s8,h1]
 obtain⟨c,f,k1,n1,gB,sy,iP,_⟩:=Qq (l:=t) (k:=0) ⟨by omega,hl⟩
 have hz:=sy.eH;have cv:=jZ hz;have kv:=j0 cv.k;have qU:=sy.small;have Qp:=sy.n;have hs3:=sy.s;have jc:=kv.n;obtain⟨b,k2,n2,eX,zB,hbf⟩:=awH gB;have hb7:=hbf 0 zB;have hC0:=fun G=>awE b G;by_cases h2:oX b=0
 case neg=>simp +contextual (disch:=omega) [-getElem?_pos,-List.length_eq_zero_iff,-Int.natCast_eq_zero,wrap64,abB,CW,s8,h1,F6,n1,n2,hC0,h2]
 have hC:∀(w:Bool) (G:List aP),b.w=w→aX F 52 [.agg [i64 b.t,j7 b.s,.bool w]] G=some (i64 (oX b),G):=fun w G e=>by
  have:=hC0 G;simp only[yA,mD.row,e]at this;exact this
 cases h3:b.w with
 |true =>
  have hC:=fun G=>hC true G h3;simp +contextual (disch:=omega) [-getElem?_pos,-List.length_eq_zero_iff,-Int.natCast_eq_zero,wrap64,abB,CW,s8,h1,F6,n1,n2,hC,h2,h3]
 |false =>
 have hC:=fun G=>hC false G h3;obtain⟨q,k3,n3,lT,hq,Ea⟩:=abr eX (c:=c) (by omega) (by omega) (n:=(nth b.s 0).f.length) (by omega)
 obtain⟨k,hk,aDC⟩:=aBs (a:=node) (m:=c.r.n) R3.1 (by omega)
 have tK:¬ c.r.n=0:=by omega
 have mz:∀i,i<q.length→((nth q i).a.length:Int)=c.r.n:=fun i hi=>(Ea i (by omega)).1.1
 have hqb:∀p∈q,pq p:=fun p hp=>by
  obtain⟨j,hj,rfl⟩:=List.mem_iff_getElem.1 hp;have:=(Ea j (by omega)).1
  rw[show nth q j=q[j] by simp[nth,List.getD,hj]]at this
  unfold mj at this;unfold pq;omega
 have hof:Hf c b k q=0:=by
  unfold Hf;rw[if_neg (fun g=>g hz),if_neg (fun g=>g h2),if_neg (by rw[h3];simp),if_neg (by omega),if_neg (by omega),if_neg]
  intro g;obtain⟨x,hx,g2⟩:=List.any_eq_true.1 g;obtain⟨j,hj,rfl⟩:=List.mem_iff_getElem.1 hx;have:=mz j hj;rw[show nth q j=q[j] by simp[nth,List.getD,hj]]at this
  simp[this]at g2
 obtain⟨G1,r1⟩:=awG qU b k q hqb;unfold Ho at r1;rw[if_pos hof,Int.toNat_natCast]at r1;simp only[yA,mD.row,h3]at r1;have bv:=adE h2;have DS:=bv.jo;simp +contextual (disch:=omega) [-getElem?_pos,-List.length_eq_zero_iff,-Int.natCast_eq_zero,wrap64,abB,CW,s8,h1,F6,n1,n2,hC,h2,h3,tK,hk,aW (l:=b.s),n3,r1];obtain⟨ws,hws⟩:∃ws,b.s.map (ld k q)=ws:=⟨_,rfl⟩;have Qn:ws.length=b.s.length:=by rw[←hws];simp
 have hwn:∀i,i<b.s.length→nth ws i=ld k q (nth b.s i):=fun i hi=>by rw[←hws,wF hi]
 refine go_loop (fun i:Nat=>ayt k (lW q) (jP ws) b.s.length i b.row [dk t k3]) (fun i=>i≤b.s.length) (fun i=>b.s.length-i) 0 rfl (by simp[←hws,h3]) (by omega) ?_
 intro i hi;simp +contextual (disch:=omega) [-getElem?_pos,-List.length_eq_zero_iff,-Int.natCast_eq_zero,wrap64,ar7];refine bE (fun h4=>?_) (fun h4=>?_)
 case refine_2=>trivial
 have h4:i<b.s.length:=by omega
 have hwi:=hwn i h4;have HS:i<ws.length:=by omega
 have aDD:=(bv.s i h4).2;have HA:(ld k q (nth b.s i)).s.length=q.length:=by simp[ld]
 have hsn:∀j,j<q.length→nth (ld k q (nth b.s i)).s j=tI k (nth (nth b.s i).f j) (nth q j):=fun j hj=>by
  show nth ((List.range q.length).map _) j=_;rw[aBr hj]
 have hww:(ld k q (nth b.s i)).w=(nth b.s i).w:=rfl;generalize ld k q (nth b.s i)=W at *;simp +contextual (disch:=omega) [-getElem?_pos,-List.length_eq_zero_iff,-Int.natCast_eq_zero,wrap64,aW (l:=ws),hwi,aW (l:=b.s),hww,HA];refine go_loop (fun j:Nat=>ayr k (lW q) i (jP ws) b.s.length i (lW W.s) q.length j b.row [dk t k3]) (fun j=>j≤q.length) (fun j=>q.length-j) 0 rfl (by simp) (by omega) ?_
 intro j hj;simp +contextual (disch:=omega) [-getElem?_pos,-List.length_eq_zero_iff,-Int.natCast_eq_zero,wrap64,ar6];refine bE (fun h5=>?_) (fun h5=>?_)
 case refine_2=>exact bF (i+1) (by simp) (by omega) (by omega)
 have h5:j<q.length:=by omega
 have hjW:j<W.s.length:=by omega
 have hsj:=hsn j h5;have hqj:=mz j h5;have hla:(tI k (nth (nth b.s i).f j) (nth q j)).a.length=(nth q j).a.length:=by simp[tI]
 have Ub:∀m,m<(nth q j).a.length→nth (tI k (nth (nth b.s i).f j) (nth q j)).a m=if m=k then nth (nth b.s i).f j else nth (nth q j).a m:=fun m hm=>by
  show nth ((nth q j).a.set k _) m=_;rw[tg (by omega)]
 have hjf:j<(nth b.s i).f.length:=by omega
 generalize tI k (nth (nth b.s i).f j) (nth q j)=S at *;simp +contextual (disch:=omega) [-getElem?_pos,-List.length_eq_zero_iff,-Int.natCast_eq_zero,wrap64,aW (l:=W.s),hsj];refine go_loop (fun m:Nat=>aym k (lW q) i j (jP ws) b.s.length i (lW W.s) q.length j (ints S.a) (nth q j).a.length m b.row [dk t k3]) (fun m=>m≤(nth q j).a.length) (fun m=>(nth q j).a.length-m) 0 rfl (by simp[hla]) (by omega) ?_
 intro m hm;simp +contextual (disch:=omega) [-getElem?_pos,-List.length_eq_zero_iff,-Int.natCast_eq_zero,wrap64,ar5];refine bE (fun h6=>?_) (fun h6=>?_)
 case refine_2=>exact bF (j+1) (by simp) (by omega) (by omega)
 have h6:m<(nth q j).a.length:=by omega
 have hmS:m<S.a.length:=by omega
 have kN:=Ub m h6;by_cases h7:m=k
 ·rw[if_pos h7]at kN
  subst h7;simp +contextual (disch:=omega) [-getElem?_pos,-List.length_eq_zero_iff,-Int.natCast_eq_zero,wrap64,dj (l:=S.a),aW (l:=q),dj (l:=(nth q j).a),aW (l:=b.s),dj (l:=(nth b.s i).f),kN];exact bF (m+1) (by simp) (by omega) (by omega)
 ·rw[if_neg h7]at kN
  have h7':¬ (m:Int)=k:=by omega
  simp +contextual (disch:=omega) [-getElem?_pos,-List.length_eq_zero_iff,-Int.natCast_eq_zero,wrap64,dj (l:=S.a),aW (l:=q),dj (l:=(nth q j).a),h7',kN];exact bF (m+1) (by simp) (by omega) (by omega)
end Go.Proofs.YtocclbnghhaejaaGreat
