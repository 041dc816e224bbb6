/- Parts of the proof, joined: Rcs1. -/
import Derived.Test.YtocclbnghhaejaaGreatDh
import Derived.Test.YtocclbnghhaejaaGreatDg
namespace Go.Proofs.YtocclbnghhaejaaGreat
set_option linter.all false
open Go.Vm
attribute [local simp] lQ lR kP lP
theorem awP{x:Int×Int×Int}:¬ lN x x:=by unfold lN;omega
theorem aBe{x y z:Int×Int×Int}(h:lN x y)(g:lN y z):lN x z:=by unfold lN at *;omega
theorem aBf{x y z:Int×Int×Int}(h:lN x z):lN x y∨lN y z:=by unfold lN at *;omega
theorem aes{r:Nat→Int×Int×Int}:∀{k:Nat},∀j,j<k→¬ lN (r j) (r (nX r k))∧(j<nX r k→lN (r (nX r k)) (r j))
 |k+1,j,hj=>by
  unfold nX;by_cases h:k=0∨lN (r k) (r (nX r k))
  ·rw[if_pos h]
   rcases h with rfl|h
   ·obtain rfl:j=0:=by omega
    exact⟨awP,by omega⟩
   ·by_cases e:j=k
    ·subst e;exact⟨awP,by omega⟩
    ·obtain⟨a,_⟩:=aes (r:=r) (k:=k) j (by omega)
     exact⟨fun g=>a (aBe g h),fun _=>(aBf (y:=r j) h).resolve_right a⟩
  ·rw[if_neg h]
   have hk:¬ k=0:=fun g=>h (.inl g);have hn:¬ lN (r k) (r (nX r k)):=fun g=>h (.inr g);by_cases e:j=k
   ·subst e
    have:=adn (r:=r) (k:=j) (by omega)
    exact⟨hn,by omega⟩
   ·exact aes j (by omega)
theorem aBg{r:Nat→Int×Int×Int}{k i:Nat}(hi:i<k)(h1:∀j,j<k→¬ lN (r j) (r i))(h2:∀j,j<i→lN (r i) (r j)):nX r k=i:=by
 have hb:=adn (r:=r) (k:=k) (by omega)
 have h3:=aes (r:=r) (k:=k) i hi;rcases (by omega:nX r k<i∨nX r k=i∨i<nX r k) with h|h|h
 ·exact absurd (h2 _ h) h3.1
 ·exact h
 ·exact absurd (h3.2 h) (h1 _ hb)
theorem aBh{r s:Nat→Int×Int×Int}{k n:Nat}(hn:n<k)(hb:nX r k≠n)(hs:∀j,j<k-1→s j=if j<n then r j else r (j+1)):nX s (k-1)=if n<nX r k then nX r k-1 else nX r k:=by
 have bA:=adn (r:=r) (k:=k) (by omega)
 have Uz:=aes (r:=r) (k:=k);generalize nX r k=b at *;have key:∀i,i<k-1→(if i<n then i else i+1)=b→nX s (k-1)=i:=fun i hi e=>by
  have qT:s i=r b:=by
   rw[hs i hi,← e];split<;>rfl
  refine aBg hi (fun j hj=>?_) (fun j hj=>?_)
  ·rw[qT,hs j hj]
   split
   ·exact(Uz j (by omega)).1
   ·exact(Uz (j+1) (by omega)).1
  ·rw[qT,hs j (by omega)]
   split
   ·exact(Uz j (by omega)).2 (by split at e<;>omega)
   ·exact(Uz (j+1) (by omega)).2 (by split at e<;>omega)
 by_cases h:n<b
 ·rw[if_pos h]
  exact key (b-1) (by omega) (by rw[if_neg (by omega)];omega)
 ·rw[if_neg h]
  exact key b (by omega) (by rw[if_pos (by omega)])
theorem awQ{α:Type}[Inhabited α](g:α→Int)(l:List α):∀n,n≤l.length→dN (fun i=>g (nth l i)) n=((l.take n).map g).sum
 |0,_=>by simp[dN]
 |n+1,h=>by
  rw[jI (by omega),List.map_append,List.sum_append]
  simp only[dN];rw[awQ g l n (by omega)]
  simp
theorem awR{α:Type}[Inhabited α](g:α→Int)(l:List α):dN (fun i=>g (nth l i)) l.length=(l.map g).sum:=by
 rw[awQ g l l.length (Nat.le_refl _),List.take_length]
theorem aoH{α:Type}[Inhabited α](g:α→Int)(l:List α)(i:Nat):dN (fun j=>g (nth (l.drop i++l.take i) j)) (l.drop i++l.take i).length=dN (fun j=>g (nth l j)) l.length:=by
 rw[awR,awR,List.map_append,List.sum_append,Int.add_comm,← List.sum_append,← List.map_append,List.take_append_drop]
theorem aBi{c:Cs}{f:Fl}{l:List Wd}{i:Nat}(p:Pn):mM c f (l.drop i++l.take i) p=mM c f l p:=by
 unfold mM lz lF Ac;rw[aoH (fun x=>if bd c (jt c f p x)=true then x.w else 0),aoH (fun x:Wd=>x.w*(jt c f p x).p),aoH (fun x:Wd=>x.w*(jt c f p x).t)]
theorem awS{c:Cs}{f:Fl}{p:Pn}{l:List Wd}:kz c f p l=0↔tl c p=0∧(0<l.length∧l.length≤50)∧∀x∈l,wdE x p.l.length=0∧BK c f p x=0:=by
 constructor
 ·intro h
  unfold kz at h;split at h
  ·rename_i h1;exact absurd h h1
  split at h
  ·rename_i h1;exact absurd h h1
  rename_i h1 h2;have h2:=Decidable.of_not_not h2;refine⟨Decidable.of_not_not h1,(an0 h2).1,fun x hx=>?_⟩;obtain⟨j,hj,rfl⟩:=List.mem_iff_getElem.1 hx;have e:nth l j=l[j]:=by simp[nth,List.getD,hj]
  rw[←e];refine⟨?_,rU h j (by omega) (by omega)⟩
  unfold zT at h2;split at h2
  ·cases h2
  split at h2
  ·cases h2
  exact rU h2 j (by omega) (by omega)
 ·rintro⟨h1,h2,h3⟩
  unfold kz;rw[if_neg (fun g=>g h1)];have hb:zT l p.l.length=0:=by
   unfold zT;rw[if_neg (by omega),if_neg (by omega)]
   exact rW fun j _ hj=>(h3 _ (oK (by omega))).1
  rw[if_neg (fun g=>g hb)];exact rW fun j _ hj=>(h3 _ (oK (by omega))).2
theorem aBj{c:Cs}{f:Fl}{l:List Wd}{i:Nat}{p:Pn}(h:kz c f p l=0):kz c f p (l.drop i++l.take i)=0:=by
 obtain⟨h1,h2,h3⟩:=awS.1 h;refine awS.2 ⟨h1,by simp;omega,fun x hx=>h3 x ?_⟩
 rcases List.mem_append.1 hx with g|g
 ·exact List.mem_of_mem_drop g
 ·exact List.mem_of_mem_take g
theorem aoJ{c:Cs}{f:Fl}{ps:List Pn}{l:List Wd}:B0 c f ps l=0↔(0<ps.length∧ps.length≤16)∧∀p∈ps,kz c f p l=0:=by
 constructor
 ·intro h
  unfold B0 at h;split at h
  ·cases h
  split at h
  ·cases h
  refine⟨by omega,fun x hx=>?_⟩
  obtain⟨j,hj,rfl⟩:=List.mem_iff_getElem.1 hx;have e:nth ps j=ps[j]:=by simp[nth,List.getD,hj]
  rw[←e];exact rU h j (by omega) (by omega)
 ·rintro⟨h1,h2⟩
  unfold B0;rw[if_neg (by omega),if_neg (by omega)]
  exact rW fun j _ hj=>h2 _ (oK (by omega))
theorem aBk{α:Type}[Inhabited α]{l:List α}{n j:Nat}(hn:n<l.length)(hj:j<l.length-1):nth (l.take n++l.drop (n+1)) j=if j<n then nth l j else nth l (j+1):=by
 have h1:(l.take n).length=n:=by simp;omega
 split
 ·rename_i h
  rw[p8 (by omega),Ab h]
 ·rename_i h
  rw[amj (by omega),h1,abo]
  congr 1;omega
theorem awT{a:Int}{n:Nat}(ha:0≤a)(hn:0<n):∃i:Nat,a.tmod n=i∧i<n:=by
 have h1:=Int.tmod_nonneg (n:Int) ha;have h2:=Int.tmod_lt_of_pos a (b:=(n:Int)) (by omega)
 exact⟨(a.tmod n).toNat,by omega,by omega⟩
abbrev plT(ps:List Pn):V:=.slice (some 1076) 2 (ps.map Pn.row)
set_option maxRecDepth 100000 in
set_option maxHeartbeats 8000000 in
theorem aBl{t:List Int}(hl:t.length≤9223372036854775807){leave De:Int}(vQ:0≤leave∧leave≤255)(htn:0≤De∧De≤255):∃G',aX F 8 [ints t,.int .u8 leave,.int .u8 De] []=some (.bool true,G'):=by
 suffices h:gy (aX F) 8 [ints t,.int .u8 leave,.int .u8 De] [] fun v _=>v=.bool true by
  obtain⟨_,G,h,rfl⟩:=h;exact⟨G,h⟩
 refine gS rfl rfl ?_;by_cases h1:t.length≤500
 case neg=>simp +contextual (disch:=omega) [-getElem?_pos,-List.length_eq_zero_iff,-Int.natCast_eq_zero,wrap64,al4,CW,s8,h1]
 obtain⟨c,f,k1,n1,gB,sy,iP,_⟩:=Qq (l:=t) (k:=0) ⟨by omega,hl⟩
 have hz:=sy.eH;have cv:=jZ hz;have kv:=j0 cv.k;have qU:=sy.small;have Qp:=sy.n;have hs3:=sy.s;have jc:=kv.n;have H0:=yF cv.k iP;obtain⟨m,k2,n2,eX,Ba,hm⟩:=fK gB 4 (by omega)
 obtain⟨m,rfl⟩:∃k:Nat,m=k:=⟨m.toNat,by omega⟩
 obtain⟨ws,k3,n3,lT,vC,hwm⟩:=awC eX (c:=c) (by omega) (by omega) (n:=1+m) (by omega)
 rw[show((1+m:Nat):Int)=1+(m:Int) by omega]at n3
 obtain⟨a,k4,n4,pE,ha0,ha⟩:=fK lT 4 (by omega)
 simp +contextual (disch:=omega) [-getElem?_pos,-List.length_eq_zero_iff,-Int.natCast_eq_zero,wrap64,al4,CW,s8,h1,F6,n1,n2,n3,n4];refine go_loop (fun y:List (List (List Int))×Int×Nat=>ax1 leave De (.bG 0 0) (1+m) (jP ws) (.slice (some 1076) 2 (y.1.map fun p=>[i64 f.t,je p])) y.2.1 c.row f.row y.1.length [dk t y.2.2])
  (fun y=>((y.1.length:Int)+y.2.1=1+a∧0≤y.2.1)∧db t y.2.2) (fun y=>y.2.1.toNat) ([],1+a,k4) rfl (by simp) ⟨by simp;omega,pE⟩ ?_
 rintro⟨pl,b,k⟩ ⟨hb,hd⟩;simp only at hb hd;simp +contextual (disch:=omega) [-getElem?_pos,-List.length_eq_zero_iff,-Int.natCast_eq_zero,wrap64,aqt];refine bE (fun h3=>?_) (fun h3=>?_)
 ·obtain⟨p,k5,n5,xU,hp⟩:=Hh hd (c:=c) (by omega) (by omega) f.t (n:=1+m) (by omega)
  rw[show((1+m:Nat):Int)=1+(m:Int) by omega]at n5
  simp +contextual (disch:=omega) [-getElem?_pos,-List.length_eq_zero_iff,-Int.natCast_eq_zero,wrap64,n5];exact bF (pl++[p],b-1,k5) (by simp) ⟨by simp;omega,xU⟩ (by simp;omega)
 obtain⟨ps,iY⟩:∃ps:List Pn,ps=pl.map fun p=>(⟨f.t,p⟩:Pn):=⟨_,rfl⟩;have uW:(pl.map fun p=>[i64 f.t,je p])=ps.map Pn.row:=by rw[iY,List.map_map];rfl
 have awU:ps.length=pl.length:=by rw[iY];simp
 have PV:1≤ps.length∧ps.length≤5:=by omega
 rw[uW,← awU]
 clear uW iY awU hb
 have r1:=adp qU H0 ps ws [];unfold J3 at r1;by_cases h4:B0 c f ps ws=0
 case neg =>
  rw[if_neg h4]at r1;simp +contextual (disch:=omega) [-getElem?_pos,-List.length_eq_zero_iff,-Int.natCast_eq_zero,wrap64,r1,h4]
 rw[if_pos h4]at r1;obtain⟨_,hro⟩:=aoJ.1 h4;have awV:∀i,i<ps.length→kz c f (nth ps i) ws=0:=fun i hi=>hro _ (oK hi);have DS:l8 c f ps ws ps.length<ps.length:=adn (by omega)
 have Uz:=aes (r:=fun i=>mM c f ws (nth ps i)) (k:=ps.length);change ∀j,j<ps.length→¬ lN (mM c f ws (nth ps j)) (mM c f ws (nth ps (l8 c f ps ws ps.length)))∧(j<l8 c f ps ws ps.length→lN (mM c f ws (nth ps (l8 c f ps ws ps.length))) (mM c f ws (nth ps j)))at Uz;obtain⟨i,hi,HS⟩:=awT (a:=De) (n:=ws.length) htn.1 (by omega)
 obtain⟨n,hn,rQ⟩:=awT (a:=leave) (n:=ps.length) vQ.1 (by omega)
 have r2:=adp qU H0 ps (ws.drop i++ws.take i) [];unfold J3 at r2;rw[if_pos (aoJ.2 ⟨by omega,fun p hp=>aBj (hro p hp)⟩)]at r2
 have hB2:l8 c f ps (ws.drop i++ws.take i) ps.length=l8 c f ps ws ps.length:=by
  unfold l8;congr 1;funext j;exact aBi _
 rw[hB2]at r2;have r3:=adp qU H0 (ps.take n++ps.drop (n+1)) ws [];have awX:(ps.take n++ps.drop (n+1)).length=ps.length-1:=by simp;omega
 have hB3:l8 c f ps ws ps.length≠n→B0 c f (ps.take n++ps.drop (n+1)) ws=0∧l8 c f (ps.take n++ps.drop (n+1)) ws (ps.length-1)=if n<l8 c f ps ws ps.length then l8 c f ps ws ps.length-1 else l8 c f ps ws ps.length:=fun cg=>by
  refine⟨aoJ.2 ⟨by omega,fun p hp=>hro p ?_⟩,aBh rQ cg fun j hj=>?_⟩
  ·rcases List.mem_append.1 hp with g|g
   ·exact List.mem_of_mem_take g
   ·exact List.mem_of_mem_drop g
  ·show mM c f ws (nth (ps.take n++ps.drop (n+1)) j)=_
   rw[aBk rQ hj];split<;>rfl
 have Wp:l8 c f ps ws ps.length≠n→aX F 44 [cs c,fl f,pns (ps.take n++ps.drop (n+1)),jP ws] []=some (.tuple [i64 ((if n<l8 c f ps ws ps.length then l8 c f ps ws ps.length-1 else l8 c f ps ws ps.length:Nat)),i64 0],[]):=fun cg=>by
  obtain⟨g5,g6⟩:=hB3 cg;unfold J3 at r3;rw[if_pos g5,awX,g6]at r3;exact r3
 clear r3 hB3 hB2
 have hmd:List.drop i (List.take ws.length (ws.map Wd.row))=(ws.drop i).map Wd.row:=by rw[List.take_of_length_le (by simp),List.map_drop]
 have hmt:List.take i (ws.map Wd.row)=(ws.take i).map Wd.row:=List.map_take.symm;have hpt:List.take n (ps.map Pn.row)=(ps.take n).map Pn.row:=List.map_take.symm;have hpd:List.drop (n+1) (List.take ps.length (ps.map Pn.row))=(ps.drop (n+1)).map Pn.row:=by rw[List.take_of_length_le (by simp),List.map_drop]
 have hlw:(ws.drop i).length=ws.length-i∧(ws.take i).length=i:=by simp;omega
 have TD:(ps.drop (n+1)).length=ps.length-(n+1)∧(ps.take n).length=n:=by simp;omega
 clear awX
 simp only[jP,pns,List.map_append]at r2 Wp;generalize ws.drop i=wa at *;generalize ws.take i=wb at *;generalize ps.take n=pa at *;generalize ps.drop (n+1)=pb at *;generalize l8 c f ps ws ps.length=B at *;have hB:=awV B DS;have q1:=agb qU H0 (nth ps B) ws [];have q2:=ac9 qU H0 (nth ps B) ws [];unfold Uj at q1;rw[if_pos hB]at q1;rw[ac7 hB]at q2;have hlen:=fun p=>aga (c:=c) (f:=f) (p:=p) (l:=ws);have e0:¬ ((B:Int)<0):=by omega
 have e1:¬ ((ps.length:Int)≤B):=by omega
 have hbR:=J0 hB (Nat.le_refl ws.length);simp +contextual (disch:=omega) [-getElem?_pos,-List.length_eq_zero_iff,-Int.natCast_eq_zero,wrap64,r1,e0,e1,aW (l:=ps),q1,q2];refine go_loop (fun j:Nat=>ax3 leave De (jP ws) (plT ps) B (lz c f (nth ps B) ws ws.length) (zX ws ws.length) (lF c f (nth ps B) ws j) (.slice none 4 ((jB c f (nth ps B) ws).map Ws.row)) ws.length j c.row f.row ps.length [dk t k]) (fun j=>j≤ws.length) (fun j=>ws.length-j) 0 rfl (by simp[lF,dN,hlen]) (by omega) ?_
 intro j hj;have hbj:=J0 hB hj;simp +contextual (disch:=omega) [-getElem?_pos,-List.length_eq_zero_iff,-Int.natCast_eq_zero,wrap64,aqu];refine bE (fun h5=>?_) (fun h5=>?_)
 ·have h5:j<ws.length:=by omega
  have b1:=af9 hB h5;have b2:=J0 hB (show j+1≤ws.length by omega)
  have hP:lF c f (nth ps B) ws (j+1)=lF c f (nth ps B) ws j+(nth ws j).w*(jt c f (nth ps B) (nth ws j)).p:=rfl;have RC:=adf (c:=c) (f:=f) (p:=nth ps B) (l:=ws) h5;have bA:j<(jB c f (nth ps B) ws).length:=by rw[hlen];exact h5
  simp +contextual (disch:=omega) [-getElem?_pos,-List.length_eq_zero_iff,-Int.natCast_eq_zero,wrap64,aW (l:=ws),aW (l:=jB c f (nth ps B) ws),RC];exact bF (j+1) (by simp[hP]) (by omega) (by omega)
 obtain rfl:j=ws.length:=by omega
 refine go_loop (fun j:Nat=>aya leave De (jP ws) (plT ps) B (lz c f (nth ps B) ws ws.length) (zX ws ws.length) (lF c f (nth ps B) ws ws.length) (plT ps) ps.length j c.row f.row ps.length [dk t k]) (fun j=>j≤ps.length) (fun j=>ps.length-j) 0 rfl (by simp) (by omega) ?_
 intro j hj;simp +contextual (disch:=omega) [-getElem?_pos,-List.length_eq_zero_iff,-Int.natCast_eq_zero,wrap64,arY];refine bE (fun h5=>?_) (fun h5=>?_)
 ·have h5:j<ps.length:=by omega
  have hJ:=awV j h5;have q3:=agb qU H0 (nth ps j) ws [];have q4:=ac9 qU H0 (nth ps j) ws [];unfold Uj at q3;rw[if_pos hJ]at q3;rw[ac7 hJ]at q4;have hb3:=(Uz j h5).1;have e3:lN (mM c f ws (nth ps j)) (mM c f ws (nth ps B))↔lz c f (nth ps j) ws ws.length<lz c f (nth ps B) ws ws.length∨lz c f (nth ps j) ws ws.length=lz c f (nth ps B) ws ws.length∧(lF c f (nth ps B) ws ws.length<lF c f (nth ps j) ws ws.length∨lF c f (nth ps B) ws ws.length=lF c f (nth ps j) ws ws.length∧Ac c f (nth ps j) ws ws.length<Ac c f (nth ps B) ws ws.length):=Iff.rfl;rw[e3]at hb3
  have g1:¬ lz c f (nth ps j) ws ws.length<lz c f (nth ps B) ws ws.length:=by omega
  have g2:lz c f (nth ps j) ws ws.length=lz c f (nth ps B) ws ws.length→¬ lF c f (nth ps B) ws ws.length<lF c f (nth ps j) ws ws.length:=by omega
  simp +contextual (disch:=omega) [-getElem?_pos,-List.length_eq_zero_iff,-Int.natCast_eq_zero,wrap64,aW (l:=ps),q3,q4];refine go_loop (fun x:Nat=>ax5 leave De (jP ws) (plT ps) B (lz c f (nth ps B) ws ws.length) (zX ws ws.length) (lF c f (nth ps B) ws ws.length) (lz c f (nth ps j) ws ws.length) (zX ws ws.length) 0 0 (lF c f (nth ps j) ws x) (plT ps) ps.length j (.slice none 4 ((jB c f (nth ps j) ws).map Ws.row)) ws.length x c.row f.row ps.length [dk t k]) (fun x=>x≤ws.length) (fun x=>ws.length-x) 0 rfl (by simp[lF,dN,hlen]) (by omega) ?_
  intro x hx;have hbj:=J0 hJ hx;simp +contextual (disch:=omega) [-getElem?_pos,-List.length_eq_zero_iff,-Int.natCast_eq_zero,wrap64,aqx];refine bE (fun h6=>?_) (fun h6=>?_)
  ·have h6:x<ws.length:=by omega
   have b1:=af9 hJ h6;have b2:=J0 hJ (show x+1≤ws.length by omega)
   have hP:lF c f (nth ps j) ws (x+1)=lF c f (nth ps j) ws x+(nth ws x).w*(jt c f (nth ps j) (nth ws x)).p:=rfl;have RC:=adf (c:=c) (f:=f) (p:=nth ps j) (l:=ws) h6;have bA:x<(jB c f (nth ps j) ws).length:=by rw[hlen];exact h6
   simp +contextual (disch:=omega) [-getElem?_pos,-List.length_eq_zero_iff,-Int.natCast_eq_zero,wrap64,aW (l:=ws),aW (l:=jB c f (nth ps j) ws),RC];exact bF (x+1) (by simp[hP]) (by omega) (by omega)
  obtain rfl:x=ws.length:=by omega
  by_cases g3:lz c f (nth ps j) ws ws.length=lz c f (nth ps B) ws ws.length
  ·have g4:=g2 g3
   simp +contextual (disch:=omega) [-getElem?_pos,-List.length_eq_zero_iff,-Int.natCast_eq_zero,wrap64,g1,g3,g4];exact bF (j+1) (by simp) (by omega) (by omega)
  ·simp +contextual (disch:=omega) [-getElem?_pos,-List.length_eq_zero_iff,-Int.natCast_eq_zero,wrap64,g1,g3]
   exact bF (j+1) (by simp) (by omega) (by omega)
 obtain rfl:j=ps.length:=by omega
 have AX:ws.length≤3:=vC.2;have qA:De.tmod (ws.length:Int)=i:=hi;have hn':leave.tmod (ps.length:Int)=n:=hn;have z1:¬ (ws.length:Int)=0:=by omega
 have z2:¬ (ps.length:Int)=0:=by omega
 simp (config:={ maxSteps:=2000000 }) +contextual (disch:=omega) [-getElem?_pos,-List.length_eq_zero_iff,-Int.natCast_eq_zero,wrap64,qA,z1,hmd,hmt,hlw.1,hlw.2,r2];by_cases e5:n=B
 ·subst e5
  simp +contextual (disch:=omega) [-getElem?_pos,-List.length_eq_zero_iff,-Int.natCast_eq_zero,wrap64,hn',z2]
 have Wp:=Wp (Ne.symm e5);have e6:¬ (n:Int)=B:=by omega
 by_cases e7:n<B
 ·rw[if_pos e7]at Wp
  have e8:(n:Int)<B:=by omega
  have e9:((B-1:Nat):Int)+1=B:=by omega
  simp (config:={ maxSteps:=2000000 }) +contextual (disch:=omega) [-getElem?_pos,-List.length_eq_zero_iff,-Int.natCast_eq_zero,wrap64,hn',z2,e6,hpt,hpd,TD.1,TD.2,Wp,e8,e9]
 ·rw[if_neg e7]at Wp
  have e8:¬ (n:Int)<B:=by omega
  simp (config:={ maxSteps:=2000000 }) +contextual (disch:=omega) [-getElem?_pos,-List.length_eq_zero_iff,-Int.natCast_eq_zero,wrap64,hn',z2,e6,hpt,hpd,TD.1,TD.2,Wp,e8]
end Go.Proofs.YtocclbnghhaejaaGreat
