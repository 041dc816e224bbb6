/- Parts of the proof, joined: Rob8, Rsn1, Rtl1, Rof1, Raw4. -/
import Derived.Test.YtcelmhaoipbdiaaGreatFa
import Derived.Test.YtcelmhaoipbdiaaGreatDz
namespace Go.Proofs.YtcelmhaoipbdiaaGreat
set_option linter.all false
open Go.Vm
attribute [local simp] ly lz kF lx
abbrev Wo(l:List Wd):V:=.slice (some 0) 2 (l.map Wd.row)
def Wm(c:Cs)(n:Nat)(w:Wd):Prop:=(1≤w.w∧w.w≤9)∧w.s.length=n∧∀j,j<n→Sw c (nth w.s j)
theorem axy{l:List Int}{k:Nat}(hd:c5 l k){c:Cs}(hn:1≤c.r.n∧c.r.n≤40)(hs:c.s.length≤10){n:Nat}(hm:n≤1000) :
  ∃q k',aX F 26 [.bH 0 0,cs c,i64 n] [dk l k]=some (Wo q,[dk l k'])∧c5 l k'∧(1≤q.length∧q.length≤3)∧∀i,i<q.length→Wm c n (nth q i):=by
 suffices h:∀Q:V→List aP→Prop,(∀q k',c5 l k'→(1≤q.length∧q.length≤3)→(∀i,i<q.length→Wm c n (nth q i))→Q (Wo q) [dk l k'])→gw (aX F) 26 [.bH 0 0,cs c,i64 n] [dk l k] Q by
  obtain⟨_,_,h,q,k',rfl,rfl,h1⟩:=h (fun v G=>∃q k',v=Wo q∧G=[dk l k']∧c5 l k'∧(1≤q.length∧q.length≤3)∧∀i,i<q.length→Wm c n (nth q i)) fun q k' a b d=>⟨q,k',rfl,rfl,a,b,d⟩;exact⟨q,k',h,h1⟩
 intro Q hQ;refine gF rfl rfl ?_;obtain⟨a,k1,h1,gH,ha⟩:=gG hd 3 (by omega)
 simp (disch:=omega) [wrap64,aaG,h1];refine go_loop (fun y:List Wd×Int×Nat=>anJ (.bH 0 0) n (.slice (some 1025) 2 (y.1.map Wd.row)) y.2.1 c.row y.1.length [dk l y.2.2])
  (fun y=>((y.1.length:Int)+y.2.1=a ∧ -1≤y.2.1)∧c5 l y.2.2∧∀i,i<y.1.length→Wm c n (nth y.1 i)) (fun y=>(y.2.1+1).toNat) ([],a,k1) rfl (by simp) ⟨by simp;omega,gH,by simp⟩ ?_
 rintro⟨q,b,k⟩ ⟨h1,hd,hq⟩;simp only at h1 hd hq;simp (disch:=omega) [wrap64,aaF];refine bB (fun h5=>?_) (fun h5=>?_)
 ·obtain⟨x,k2,n2,fp,hx⟩:=gG hd 9 (by omega)
  obtain⟨s,k3,n3,lF,EZ,hsw⟩:=awd fp (c:=c) hn hs (n:=n) hm;simp (disch:=omega) [wrap64,n2,n3];refine bu (q++[⟨1+x,s⟩],b-1,k3) (by simp) ⟨by simp;omega,lF,fun i hi=>?_⟩ (by simp;omega)
  simp only[oG,po]at hi;rw[ik];by_cases g:i<q.length
  ·rw[aK g];exact hq i g
  ·rw[av g,aK (by omega)];exact⟨by show 1≤1+x∧1+x≤9;omega,EZ,hsw⟩
 ·exact hQ q k hd (by omega) (fun i hi=>hq i (by omega))
def zF(x:Sp):Int:=1+(x.a.length:Int)+x.b.length+x.c.length
def wG:List Sp→Int→Int
 |[],n=>n
 |x::l,n=>wG l (IntKind.i64.wrap (n+zF x))
def wH:List Wd→Int→Int
 |[],n=>n
 |x::l,n=>wH l (wG x.s n)
def wI(x:Sp):Prop:=x.a.length≤17592186044416∧x.b.length≤17592186044416∧x.c.length≤17592186044416
theorem axA{x:Sp}(h:wI x):1≤zF x∧zF x≤70368744177664:=by
 unfold wI at h;unfold zF;omega
theorem ah7:∀{l:List Sp} {n:Int},(0≤n∧n+70368744177664*l.length≤4611686018427387904)→(∀x∈l,wI x) →
  (n≤wG l n∧wG l n≤n+70368744177664*l.length)∧∀x∈l,zF x≤wG l n
 |[],n,h,_=>⟨by simp[wG],by simp⟩
 |x::l,n,h,hb=>by
  have h0:=axA (hb x (by simp))
  simp only[tx]at h ⊢;obtain⟨a,b⟩:=ah7 (l:=l) (n:=n+zF x) (by omega) fun y hy=>hb y (by simp[hy])
  simp only[wG];rw[wrap64 (by omega) (by omega)]
  refine⟨by omega,fun y hy=>?_⟩
  rcases jQ.1 hy with rfl|hy
  ·omega
  ·exact b y hy
theorem ah8:∀{l:List Wd} {n:Int},(0≤n∧n+9007199254740992*l.length≤4611686018427387904)→(∀w∈l,w.s.length≤100∧∀x∈w.s,wI x) →
  (n≤wH l n∧wH l n≤n+9007199254740992*l.length)∧∀w∈l,∀x∈w.s,zF x≤wH l n
 |[],n,h,_=>⟨by simp[wH],by simp⟩
 |w::l,n,h,hb=>by
  have h0:=hb w (by simp)
  simp only[tx]at h ⊢;obtain⟨a,b⟩:=ah7 (l:=w.s) (n:=n) (by omega) h0.2
  obtain⟨a2,b2⟩:=ah8 (l:=l) (n:=wG w.s n) (by omega) fun y hy=>hb y (by simp[hy])
  simp only[wH];refine⟨by omega,fun y hy x hx=>?_⟩
  rcases jQ.1 hy with rfl|hy
  ·have:=b x hx
   omega
  ·exact b2 y hy x hx
abbrev c1:Cs:=⟨⟨1,[]⟩,[]⟩
abbrev f1:Fl:=⟨0,[],[]⟩
abbrev p1:Pn:=⟨0,[[]]⟩
abbrev w1:Wd:=⟨3,[⟨[5],[],[]⟩]⟩
theorem axB:jy c1.r=0:=by
 unfold jy;rw[av (by decide)]
 rfl
theorem ah9:eQ c1=0:=by
 unfold eQ;rw[av (fun g=>g axB),av (by decide),av (by decide)]
 rfl
theorem Wp:im c1.r:=⟨by decide,fun i hi=>by simp at hi⟩
theorem Wq:kq f1:=fun i=>xZ _
theorem aia:fP c1 f1:=⟨by decide,⟨rfl,by simp⟩,rfl,fun i hi=>by simp at hi⟩
theorem aib:oD c1 p1=0:=by
 unfold oD;rw[av (fun g=>g ah9),aK (by decide),av (by decide)]
 refine pS fun k _ hk=>?_;have:k=0:=by simp at hk;omega
 subst this;unfold Ey;rw[aK (show(nth p1.l 0).length=c1.s.length from rfl),aK (show dF (nth p1.l 0) 1073741824 from fun i hi=>by
  have:(nth p1.l 0).length=0:=rfl;omega)]
theorem cv1:cE c1 ⟨[5],[],[]⟩ f1 1=⟨[5],[],[],[],[5],[]⟩:=by
 show vS c1 ⟨[5],[],[]⟩ ⟨[5],[],[],[],[],[]⟩ 0=_;unfold vS vL vD fL;rw[show lM c1.s ((0:Nat):Int)=none from rfl,show ml c1.r.l ((0:Nat):Int)=none from rfl];rfl
theorem pa1:fS c1 f1 ⟨[5],[],[]⟩=0:=by
 unfold fS;have ha:dF [5] 1073741824:=fun i hi=>by
  have:i=0:=by simp at hi;omega
  subst this;decide
 rw[aK (by decide),aK (show dF ((⟨[5],[],[]⟩:Sp).a++(⟨[5],[],[]⟩:Sp).b++(⟨[5],[],[]⟩:Sp).c) 1073741824 from ha),av (by decide)]
 refine pS fun k _ hk=>?_;have:k=0:=by have:c1.r.n.toNat=1:=rfl;omega
 subst this;unfold vE na pg fL;rw[show lM c1.s ((0:Nat):Int)=none from rfl,show ml c1.r.l ((0:Nat):Int)=none from rfl];rfl
theorem pl1:lY c1 f1 p1 w1.s=0:=by
 have hb:rH c1 f1 p1 w1.s.length=0:=by
  unfold rH;rw[av (fun g=>g aib),aK aia,aK (show p1.f=f1.t from rfl),aK (show w1.s.length=p1.l.length from rfl)]
 unfold lY;rw[av (fun g=>g hb)];unfold iJ;have hr:gq c1 f1=0:=by unfold gq;rw[av (fun g=>g ah9),aK aia]
 rw[av (fun g=>g hr),av (by simp[nB])]
 refine pS fun k _ hk=>?_;have:k=0:=by simp[nB]at hk;omega
 subst this;exact pa1
theorem aid:∀i,i<(jz c1 f1 p1 w1.s).length→(nth (jz c1 f1 p1 w1.s) i).re=[]:=fun i hi=>by
 have:=(CE pl1).re i hi;exact a8.1 this
theorem ro1:ku c1 f1 p1 [w1]=0:=by
 unfold ku;rw[av (fun g=>g aib),av (fun g=>g (by decide))]
 refine pS fun k _ hk=>?_;have:k=0:=by simp at hk;omega
 subst this;show sG c1 f1 p1 w1=0;unfold sG;rw[av (fun g=>g pl1),av];intro h;obtain⟨x,hx,h2⟩:=Be.1 h;obtain⟨j,hj,rfl⟩:=Hp.1 hx;have:=aid j hj;rw[show nth (jz c1 f1 p1 w1.s) j=(jz c1 f1 p1 w1.s)[j] by simp[nth,List.getD,hj]]at this
 simp[uq,this]at h2
theorem axD:nD c1 f1 p1 [w1] 1=0:=by
 have h:jj c1 f1 p1 w1=⟨[],[],0,0,0⟩:=by
  unfold jj vk;rw[OM aid];rfl
 show 0+(if bd c1 (jj c1 f1 p1 w1)=true then _ else _)=0
 rw[h];rfl
abbrev OT:V:=.agg [i64 1,.slice none 4 [],.slice none 10 []]
abbrev OU:V:=.slice none 2 [[i64 3,.slice none 3 [[.slice none 1 [[i64 5]],.slice none 1 [],.slice none 1 []]]]]
abbrev Wr:List V:=[i64 0,.slice none 1 [[.slice none 1 []]]]
theorem axE:aX F 25 [] []=some (.bool true,[]) :=
 bL rfl rfl (by
  have h1:aX F 32 [OT,.agg [i64 0,.slice none 4 [],.slice none 1 []],.agg Wr,OU] []=some (.tuple [i64 0,i64 3,i64 0],[]):=by
   have:=Wk Wp Wq p1 [w1] [];unfold CG at this;rw[aK ro1]at this;rw[show nD c1 f1 p1 [w1] [w1].length=0 from axD]at this;exact this
  have h2:aX F 35 [OT,.agg [i64 0,.slice none 4 [],.slice none 1 []],.slice none 2 [Wr,Wr],OU] []=some (.tuple [i64 0,i64 0],[]):=by
   have:=Wl Wp Wq [p1,p1] [w1] [];unfold A9 at this;have h0:CH c1 f1 [p1,p1] [w1]=0:=by
    unfold CH;rw[av (by decide),av (by decide)]
    refine pS fun k _ hk=>?_;have:k=0∨k=1:=by simp at hk;omega
    rcases this with rfl|rfl<;>exact ro1
   rw[aK h0]at this;have h3:qc c1 f1 [p1,p1] [w1] [p1,p1].length=0:=by
    show(if (1:Nat)=0∨wF (nE c1 f1 [w1] p1) (nE c1 f1 [w1] p1) then 1 else 0)=0
    rw[av];simp only[wF];omega
   rw[h3]at this;exact this
  have h3:aX F 35 [OT,.agg [i64 0,.slice none 4 [],.slice none 1 []],.slice none 2 [],OU] []=some (.tuple [i64 0,i64 9],[]):=by
   have:=Wl Wp Wq [] [w1] [];unfold A9 at this;rw[show CH c1 f1 [] [w1]=9 from rfl]at this;exact this
  have h4:aX F 28 [OT,OU,i64 1] []=some (i64 0,[]):=V9 c1 [w1] 1 [];simp +contextual (disch:=omega) [-getElem?_pos,-List.length_eq_zero_iff,-Int.natCast_eq_zero,wrap64,aaE,h1,h2,h3,h4])
theorem axF{l:List Wd}(hb:∀w∈l,∀x∈w.s,wI x)(hn:wH l l.length≤800){n:Nat}(h:n≤100):EC l n:=fun h0 i hi k hk=>by
 obtain⟨h1,h2⟩:=OK h0;have h3:=ah8 (l:=l) (n:=l.length) (by omega) fun w hw=>⟨by
  obtain⟨j,hj,rfl⟩:=Hp.1 hw;have:=(h2 j hj).2;rw[show nth l j=l[j] by simp[nth,List.getD,hj]]at this
  omega,hb w hw⟩
 have h4:=h3.2 _ (oo hi) _ (oo hk);unfold zF at h4;omega
theorem axG{c:Cs}{n:Nat}{l:List Wd}(hc:c.r.n≤40)(hs:c.s.length≤10)(h:∀i,i<l.length→Wm c n (nth l i)){m:Int}:EC l m:=fun _ i hi k hk=>by
 obtain⟨_,h2,h3⟩:=h i hi;have:=(h3 k (by omega)).1
 unfold j7 at this;omega
set_option maxRecDepth 100000 in
set_option maxHeartbeats 8000000 in
theorem axH{t:List Int}(hl:t.length≤9223372036854775807)(raw:List Wd)(hr0:raw.length≤17592186044416)(qj:∀w∈raw,w.s.length≤17592186044416)(lh:∀w∈raw,∀x∈w.s,wI x)(steps:Int) :
  ∃G',aX F 4 [ints t,iK raw,i64 steps] []=some (.bool true,G'):=by
 suffices h:gw (aX F) 4 [ints t,iK raw,i64 steps] [] fun v _=>v=.bool true by
  obtain⟨_,G,h,rfl⟩:=h;exact⟨G,h⟩
 refine gF rfl rfl ?_;simp +contextual (disch:=omega) [-getElem?_pos,-List.length_eq_zero_iff,-Int.natCast_eq_zero,wrap64,aai,axE];refine go_loop (fun x:Nat×Int=>amM (ints t) (iK raw) steps x.2 (iK raw) raw.length x.1 []) (fun x=>x.1≤raw.length∧wH (raw.drop x.1) x.2=wH raw raw.length) (fun x=>raw.length-x.1) (0,raw.length) rfl (by simp) (by simp) ?_
 rintro⟨i,n⟩ ⟨hi,hq⟩;simp only at hi hq;simp +contextual (disch:=omega) [-getElem?_pos,-List.length_eq_zero_iff,-Int.natCast_eq_zero,wrap64,aad];refine bB (fun h=>?_) (fun h=>?_)
 ·have h:i<raw.length:=by omega
  rw[m7 h]at hq;simp only[wH]at hq;have hm:=oo h;have g1:=qj _ hm;have g2:=lh _ hm;simp +contextual (disch:=omega) [-getElem?_pos,-List.length_eq_zero_iff,-Int.natCast_eq_zero,wrap64,aY (l:=raw)];refine go_loop (fun x:Nat×Int=>amK (ints t) (iK raw) steps x.2 (iK raw) raw.length i (oC (nth raw i).s) (nth raw i).s.length x.1 []) (fun x=>x.1≤(nth raw i).s.length∧wG ((nth raw i).s.drop x.1) x.2=wG (nth raw i).s n) (fun x=>(nth raw i).s.length-x.1) (0,n) rfl (by simp) (by simp) ?_
  rintro⟨j,m⟩ ⟨hj,hp⟩;simp only at hj hp;simp +contextual (disch:=omega) [-getElem?_pos,-List.length_eq_zero_iff,-Int.natCast_eq_zero,wrap64,aac];refine bB (fun h2=>?_) (fun h2=>?_)
  ·have h2:j<(nth raw i).s.length:=by omega
   rw[m7 h2]at hp;simp only[wG]at hp;obtain⟨b1,b2,b3⟩:=g2 _ (oo h2);simp +contextual (disch:=omega) [-getElem?_pos,-List.length_eq_zero_iff,-Int.natCast_eq_zero,wrap64,aY (l:=(nth raw i).s)];exact bu (j+1,IntKind.i64.wrap (m+zF (nth (nth raw i).s j))) (by simp[zF]) ⟨by omega,hp⟩ (by simp;omega)
  ·obtain rfl:j=(nth raw i).s.length:=by omega
   simp only[rJ,wG]at hp;rw[←hp]at hq;exact bu (i+1,m) (by simp) ⟨by omega,hq⟩ (by simp;omega)
 obtain rfl:i=raw.length:=by omega
 simp only[rJ,wH]at hq;subst hq;by_cases h1:t.length≤500
 case neg=>simp +contextual (disch:=omega) [-getElem?_pos,-List.length_eq_zero_iff,-Int.natCast_eq_zero,wrap64,DY,h1]
 by_cases h2:800<wH raw raw.length
 case pos=>simp +contextual (disch:=omega) [-getElem?_pos,-List.length_eq_zero_iff,-Int.natCast_eq_zero,wrap64,DY,h1,h2]
 obtain⟨c,f,k1,n1,gH,nX,hY,_⟩:=agZ (l:=t) (k:=0) ⟨by omega,hl⟩
 have hz:=nX.lD;have cv:=jM hz;have kv:=kr cv.k;have oA:=nX.small;have hn6:=nX.n;have hs3:=nX.s;have jZ:=kv.n;have xL:=hY.1;have um:=Er cv.k hY;obtain⟨m,k2,n2,fp,B1,hm⟩:=gG gH 5 (by omega)
 obtain⟨m,rfl⟩:∃k:Nat,m=k:=⟨m.toNat,by omega⟩
 obtain⟨ws,k3,n3,lF,wx,hwm⟩:=axy fp (c:=c) (by omega) (by omega) (n:=m) (by omega)
 obtain⟨a,k4,n4,pT,ha0,ha⟩:=gG lF 4 (by omega)
 simp +contextual (disch:=omega) [-getElem?_pos,-List.length_eq_zero_iff,-Int.natCast_eq_zero,wrap64,DY,h1,h2,TW,n1,n2,n3,n4];refine go_loop (fun y:List (List (List Int))×Int×Nat=>amO (iK raw) steps (.bH 0 0) m (iK ws) (.slice (some 1107) 2 (y.1.map fun p=>[i64 f.t,j0 p])) y.2.1 c.row f.row y.1.length [dk t y.2.2])
  (fun y=>((y.1.length:Int)+y.2.1=a∧0≤y.2.1)∧c5 t y.2.2∧∀i,i<y.1.length→(nth y.1 i).length=m) (fun y=>y.2.1.toNat) ([],a,k4) rfl (by simp) ⟨by simp;omega,pT,by simp⟩ ?_
 rintro⟨pl,b,k⟩ ⟨hb,hd,lj⟩;simp only at hb hd lj;simp +contextual (disch:=omega) [-getElem?_pos,-List.length_eq_zero_iff,-Int.natCast_eq_zero,wrap64,aae];refine bB (fun h3=>?_) (fun h3=>?_)
 ·obtain⟨p,k5,n5,yR,hp⟩:=ahL hd (c:=c) (by omega) (by omega) f.t (n:=m) (by omega)
  simp +contextual (disch:=omega) [-getElem?_pos,-List.length_eq_zero_iff,-Int.natCast_eq_zero,wrap64,n5];refine bu (pl++[p],b-1,k5) (by simp) ⟨by simp;omega,yR,fun i hi=>?_⟩ (by simp;omega)
  simp only[oG,po]at hi;rw[ik];by_cases g:i<pl.length
  ·rw[aK g];exact lj i g
  ·rw[av g,aK (by omega)];exact hp
 obtain⟨p,k5,n5,yR,hp⟩:=ahL hd (c:=c) (by omega) (by omega) (f.t+1) (n:=m) (by omega)
 simp +contextual (disch:=omega) [-getElem?_pos,-List.length_eq_zero_iff,-Int.natCast_eq_zero,wrap64,n5];obtain⟨ps,iF⟩:∃ps:List Pn,ps=pl.map fun p=>(⟨f.t,p⟩:Pn):=⟨_,rfl⟩;obtain⟨qs,zC⟩:∃qs:List Pn,qs=ps++[⟨f.t+1,p⟩]:=⟨_,rfl⟩;have aEn:pl.length≤5:=by omega
 have BG:(pl.map fun p=>[i64 f.t,j0 p])=ps.map Pn.row:=by rw[iF,CQ];rfl
 have hqr:ps.map Pn.row++[[i64 (f.t+1),j0 p]]=qs.map Pn.row:=by rw[zC,Hn];rfl
 have Wt:ps.length=pl.length:=by rw[iF];simp
 have aih:qs.length=pl.length+1:=by rw[zC];simp[Wt]
 have JO:∀i,i<ps.length→(nth ps i).l.length≤100:=fun i hi=>by
  rw[iF,ua (by omega)]
  have:=lj i (by omega)
  show(nth pl i).length≤100;omega
 have hqm:∀i,i<qs.length→(nth qs i).l.length≤100:=fun i hi=>by
  rw[zC,ik];split
  ·exact JO i (by assumption)
  ·rw[aK (by omega)]
   show p.length≤100;omega
 have aEo:qs.length≤10:=by omega
 rw[BG,hqr];rw[←Wt]at aih ⊢;rw[←aih]
 clear BG hqr iF zC Wt lj hb
 obtain⟨ls,yV⟩:∃ls:List (List Wd),ls=[raw,ws]:=⟨_,rfl⟩;have aEp:ls.length=2:=by rw[yV];rfl
 have hlS:∀i,i<2→∀n:Nat,n≤100→EC (nth ls i) n:=fun i hi n hn=>by
  rcases (by omega:i=0∨i=1) with rfl|rfl
  ·rw[yV];exact axF lh (by omega) hn
  ·rw[yV];exact axG (by omega) (by omega) hwm
 refine go_loop (fun i:Nat=>am0 steps m (.slice (some 1107) 2 (ps.map Pn.row)) (.slice (some 1109) 2 (qs.map Pn.row)) (.slice none 1 (ls.map fun l=>[iK l])) 2 i c.row f.row ps.length qs.length [dk t k5]) (fun i=>i≤2) (fun i=>2-i) 0 rfl (by simp[yV]) (by omega) ?_
 intro i hi;simp +contextual (disch:=omega) [-getElem?_pos,-List.length_eq_zero_iff,-Int.natCast_eq_zero,wrap64,aah];refine bB (fun h4=>?_) (fun h4=>?_)
 case refine_2=>trivial
 have h4:i<ls.length:=by omega
 have hS:=hlS i (by omega)
 have hc1:=fun n G=>V9 c (nth ls i) n G;have Dj:=fun n G=>ahN c (nth ls i) n G;simp +contextual (disch:=omega) [-getElem?_pos,-List.length_eq_zero_iff,-Int.natCast_eq_zero,wrap64,aY (l:=ls),hc1,Dj];generalize nth ls i=l at *;refine go_loop (fun j:Nat=>amQ steps m (.slice (some 1107) 2 (ps.map Pn.row)) (.slice (some 1109) 2 (qs.map Pn.row)) (iK l) (.slice none 1 (ls.map fun l=>[iK l])) 2 i (.slice (some 1109) 2 (qs.map Pn.row)) qs.length j c.row f.row ps.length qs.length [dk t k5]) (fun j=>j≤qs.length) (fun j=>qs.length-j) 0 rfl (by simp) (by omega) ?_
 intro j hj;simp +contextual (disch:=omega) [-getElem?_pos,-List.length_eq_zero_iff,-Int.natCast_eq_zero,wrap64,aaf];refine bB (fun h5=>?_) (fun h5=>?_)
 ·have h5:j<qs.length:=by omega
  have hS:=hS _ (hqm j h5);have r1:=Wc oA um (nth qs j) l [];have r2:=ahX oA um (nth qs j) l hS [];have r3:=Wk oA um (nth qs j) l [];have r4:=axv oA um (nth qs j) l hS [];unfold CG at r3 r4;by_cases h6:ku c f (nth qs j) l=0
  ·rw[ON h6]at r1 r2
   rw[aK h6]at r3 r4;obtain⟨_,e1,e2⟩:=G7 h6;have hs:=ah6 (iB c f (nth qs j) l) (by rw[Kx];omega) (fun i hi=>by
    rw[Kx]at hi;rw[OR hi,Wj (e2 i hi).2];omega) []
   simp +contextual (disch:=omega) [-getElem?_pos,-List.length_eq_zero_iff,-Int.natCast_eq_zero,wrap64,aY (l:=qs),r1,r2,r3,r4,hs];exact bu (j+1) (by simp) (by omega) (by omega)
  ·rw[Wb h6]at r1 r2
   rw[av h6]at r3 r4;have hs:=ah6 [] (by simp) (by simp) []
   simp only[Bf]at hs;simp +contextual (disch:=omega) [-getElem?_pos,-List.length_eq_zero_iff,-Int.natCast_eq_zero,wrap64,aY (l:=qs),r1,r2,r3,r4,hs];exact bu (j+1) (by simp) (by omega) (by omega)
 obtain rfl:j=qs.length:=by omega
 obtain⟨pp,hpp⟩:∃pp:List (List Pn),pp=[ps,qs]:=⟨_,rfl⟩;have aEq:pp.length=2:=by rw[hpp];rfl
 have hpS:∀i,i<2→∀j,j<(nth pp i).length→EC l (nth (nth pp i) j).l.length:=fun i hi j hj=>by
  rcases (by omega:i=0∨i=1) with rfl|rfl
  ·rw[hpp]at hj ⊢;exact hS _ (JO j hj)
  ·rw[hpp]at hj ⊢;exact hS _ (hqm j hj)
 refine go_loop (fun j:Nat=>amV steps m (.slice (some 1107) 2 (ps.map Pn.row)) (.slice (some 1109) 2 (qs.map Pn.row)) (iK l) (.slice none 1 (ls.map fun l=>[iK l])) 2 i (.slice none 1 (pp.map fun l=>[KA l])) 2 j c.row f.row ps.length qs.length [dk t k5]) (fun j=>j≤2) (fun j=>2-j) 0 rfl (by simp[hpp]) (by omega) ?_
 intro j hj;simp +contextual (disch:=omega) [-getElem?_pos,-List.length_eq_zero_iff,-Int.natCast_eq_zero,wrap64,aag];refine bB (fun h5=>?_) (fun h5=>?_)
 ·have h5:j<pp.length:=by omega
  have r1:=Wl oA um (nth pp j) l [];have r2:=axw oA um (nth pp j) l (hpS j (by omega)) []
  unfold A9 at r1 r2;by_cases h6:CH c f (nth pp j) l=0
  ·rw[aK h6]at r1 r2
   simp +contextual (disch:=omega) [-getElem?_pos,-List.length_eq_zero_iff,-Int.natCast_eq_zero,wrap64,aY (l:=pp),r1,r2];exact bu (j+1) (by simp) (by omega) (by omega)
  ·rw[av h6]at r1 r2
   simp +contextual (disch:=omega) [-getElem?_pos,-List.length_eq_zero_iff,-Int.natCast_eq_zero,wrap64,aY (l:=pp),r1,r2];exact bu (j+1) (by simp) (by omega) (by omega)
 ·obtain rfl:j=2:=by omega
  exact bu (i+1) (by simp) (by omega) (by omega)
end Go.Proofs.YtcelmhaoipbdiaaGreat
namespace Go.Proofs.YtcelmhaoipbdiaaGreat
set_option linter.all false
open Go.Vm
structure Sc where
 w:Int
 f:List Int
abbrev Sc.row(x:Sc):List V:=[i64 x.w,ints x.f]
instance:Inhabited Sc:=⟨⟨0,[]⟩⟩
abbrev kB(l:List Sc):V:=.slice none 2 (l.map Sc.row)
structure Wu where
 t:Int
 s:List Sc
 w:Bool
abbrev Wu.row(x:Wu):List V:=[i64 x.t,kB x.s,.bool x.w]
structure Bv(b:Wu):Prop where
 jI:0<b.s.length∧b.s.length≤50
 s:∀i,i<b.s.length→(1≤(nth b.s i).w∧(nth b.s i).w≤10000)∧(nth b.s i).f.length=(nth b.s 0).f.length
 n:0<(nth b.s 0).f.length∧(nth b.s 0).f.length≤1000
end Go.Proofs.YtcelmhaoipbdiaaGreat
namespace Go.Proofs.YtcelmhaoipbdiaaGreat
set_option linter.all false
open Go.Vm
theorem axM{H:Type}{d:Nat}{vs:List V}{x:DataW H}(h:uT Tryz.prog d 24 vs x):∃p:Sp,vs=p.row∧wI p:=by
 have hl:=RA (n:=3) (by kernel_rfl) h.1
 obtain⟨_,_,g0⟩:=DE (i:=0) (off:=0) (n:=1) (ty:=22) (by kernel_rfl) h
 obtain⟨a0,h0,w0⟩:=GY g0;obtain⟨_,_,g1⟩:=DE (i:=1) (off:=1) (n:=1) (ty:=22) (by kernel_rfl) h
 obtain⟨a1,h1,w1⟩:=GY g1;obtain⟨_,_,g2⟩:=DE (i:=2) (off:=2) (n:=1) (ty:=22) (by kernel_rfl) h
 obtain⟨a2,h2,w2⟩:=GY g2
 match vs,hl with
 |[b0,b1,b2],_ =>
  simp at h0 h1 h2;subst h0;subst h1;subst h2;exact⟨⟨a0,a1,a2⟩,rfl,w0,w1,w2⟩
theorem axN{H:Type}{d:Nat}{vs:List V}{x:DataW H}(h:uT Tryz.prog d 43 vs x):∃l:List Sp,vs=[oC l]∧(∀p∈l,wI p)∧l.length≤17592186044416:=by
 obtain⟨l,h1,i1,w1⟩:=RB (e:=24) Sp.row wI (by kernel_rfl) (fun d vs x h=>axM h) h
 have c1:Tryz.prog.cellsOf 24=3:=by kernel_rfl
 have b1:Tryz.prog.bytesOf 24=72:=by kernel_rfl
 rw[b1]at w1;unfold reachBytes at w1;rw[c1]at h1;exact⟨l,h1,i1,by omega⟩
theorem axO{H:Type}{d:Nat}{vs:List V}{x:DataW H}(h:uT Tryz.prog d 64 vs x):∃w:Wd,vs=w.row∧w.s.length≤17592186044416∧∀p∈w.s,wI p:=by
 have hl:=RA (n:=2) (by kernel_rfl) h.1
 obtain⟨a0,h0,_⟩:=alK (i:=0) (off:=0) (ty:=3) (k:=.i64) (by kernel_rfl) (by kernel_rfl) h.1
 obtain⟨_,_,g1⟩:=DE (i:=1) (off:=1) (n:=1) (ty:=43) (by kernel_rfl) h
 obtain⟨l,h1,i1,w1⟩:=axN g1
 match vs,hl with
 |[b0,b1],_ =>
  simp at h0 h1;subst h0;subst h1;exact⟨⟨a0,l⟩,rfl,w1,i1⟩
theorem axP{H:Type}{d:Nat}{vs:List V}{x:DataW H}(h:uT Tryz.prog d 62 vs x):∃l:List Wd,vs=[iK l]∧(∀w∈l,w.s.length≤17592186044416∧∀p∈w.s,wI p)∧l.length≤17592186044416:=by
 obtain⟨l,h1,i1,w1⟩:=RB (e:=64) Wd.row (fun w=>w.s.length≤17592186044416∧∀p∈w.s,wI p) (by kernel_rfl) (fun d vs x h=>axO h) h
 have c1:Tryz.prog.cellsOf 64=2:=by kernel_rfl
 have b1:Tryz.prog.bytesOf 64=32:=by kernel_rfl
 rw[b1]at w1;unfold reachBytes at w1;rw[c1]at h1;exact⟨l,h1,i1,by omega⟩
end Go.Proofs.YtcelmhaoipbdiaaGreat
