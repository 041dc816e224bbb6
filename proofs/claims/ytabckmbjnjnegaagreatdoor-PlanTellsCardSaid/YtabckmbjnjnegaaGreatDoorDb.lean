/- - -/
import Derived.Test.YtabckmbjnjnegaaGreatDoorDa
attribute [local simp] Go.Vm.wrap64
namespace Go.Proofs.YtabckmbjnjnegaaGreatDoor
set_option linter.all false
set_option maxRecDepth 100000
open Go.Vm
section
attribute [local simp] mX mY lX mW
variable{α:Type}
def jM[Inhabited α]{l:List α}{a:α}{i:Nat}:nth (l++[a]) i=if i<l.length then nth l i else if i=l.length then a else default:=by
 simp only[nth,List.getD,rP];split
 .rfl
 .split
  next h=>subst h;simp
  next h1 h2=>
   rw[kW (by simp;omega)]
   rfl
structure Cw(c:List Pt)(x y dx dy least:Int):Prop where
 pos:0<c.length
 l8:c.length<=5
 first:nth c 0=⟨x,y⟩
 step:∀i,0<i->i<c.length->((nth c (i-1)).x<(nth c i).x/\(nth c i).x<=(nth c (i-1)).x+dx)/\(nth c (i-1)).y+least<=(nth c i).y/\(nth c i).y<=(nth c (i-1)).y+dy
variable{x y dx dy least:Int}
def Cw.up{c:List Pt}(h:Cw c x y dx dy least)(h0:0<=x/\x<=1000)(h1:0<=y/\y<=1000)(h2:0<=dx/\dx<=1000)(h3:0<=dy/\dy<=1000)(h4:0<=least) :
  ∀i:Nat,i<c.length->(0<=(nth c i).x/\(nth c i).x<=1000+1000*(i:Int))/\0<=(nth c i).y/\(nth c i).y<=1000+1000*(i:Int):=by
 intro i;induction i with
 |zero=>intro hi;have:=h.first;rw[this];simp;omega
 |succ i ih =>
  intro hi;have a:=ih (by omega)
  have b:=h.step (i+1) (by omega) hi
  simp only[rW]at b;omega
def Cw.nI{c:List Pt}(h:Cw c x y dx dy least)(h0:0<=x/\x<=1000)(h1:0<=y/\y<=1000)(h2:0<=dx/\dx<=1000)(h3:0<=dy/\dy<=1000)(h4:0<=least):iu c=0:=by
 have hp:=h.pos;have hf:=h.l8;unfold iu;rw[ax',ax']
 refine vU λi _ hi=>?_;have a:=h.up h0 h1 h2 h3 h4 i (by omega)
 unfold jn;rw[ax']
 split
 .rfl
 .have b:=h.step i (by omega) (by omega)
  rw[ax',ax]
  rw[uh (by omega)]
  generalize hu:(nth c i).x-(nth c (i-1)).x=u;generalize hv:(nth c i).y-(nth c (i-1)).y=v;refine M1.2 ((RK (by omega)).2 ?_)
  have:v*u<=1000*1000:=Je (by omega) (by omega) (by omega) (by omega)
  omega
abbrev opts(c:List Pt):V:=.slice (some 0) 2 (c.map Pt.row)
variable{l:List Int}{k:Nat}
def WV(hd:dz l k)(strict:Bool)(h0:0<=x/\x<=1000)(h1:0<=y/\y<=1000)(h2:1<=dx/\dx<=1000)(h3:1<=dy/\dy<=1000) :
  ∃c k',aX F 141 [.bu 0 0,i64 x,i64 y,i64 dx,i64 dy,.bool strict] [dk l k]=some (opts c,[dk l k'])/\dz l k'/\2<=c.length/\Cw c x y dx dy (if strict then 1 else 0):=by
 suffices h:gz (aX F) 141 [.bu 0 0,i64 x,i64 y,i64 dx,i64 dy,.bool strict] [dk l k] λv G=>∃c k',v=opts c/\G=[dk l k']/\dz l k'/\2<=c.length/\Cw c x y dx dy (if strict then 1 else 0) by
  obtain⟨_,_,h,c,k',rfl,rfl,h1⟩:=h;exact⟨c,k',h,h1⟩
 generalize hL:(if strict then 1 else 0:Int)=L
 have H8:0<=L/\L<=1:=by rw[<-hL];cases strict<;>simp
 refine gN rfl rfl ?_;obtain⟨a,k1,n1,iD,ha⟩:=fG hd 4 (by omega)
 have main:∀K:cT,(∀c k',dz l k'->2<=c.length->Cw c x y dx dy L->∀z,K (.exit 0) ⟨[(0,.bu 0 0),(1,i64 (nth c (c.length-1)).x),(2,i64 (nth c (c.length-1)).y),(3,i64 dx),(4,i64 dy),(13,i64 L),(14,.slice (some 1020) 2 (c.map Pt.row)),(15,i64 0),(25,z)],[],[(1020,c.length)],[dk l k']⟩) ->
   go (aX F) afw (afx (.bu 0 0) x y dx dy L (.slice (some 1020) 2 [Pt.row ⟨x,y⟩]) (1+a) 1 [dk l k1]) K:=by
  intro K hK;refine go_loop (λs:List Pt×Int×Nat=>afx (.bu 0 0) (nth s.1 (s.1.length-1)).x (nth s.1 (s.1.length-1)).y dx dy L (.slice (some 1020) 2 (s.1.map Pt.row)) s.2.1 s.1.length [dk l s.2.2])
   (λs=>Cw s.1 x y dx dy L/\(0<s.2.1\/2<=s.1.length)/\0<=s.2.1/\(s.1.length:Int)+s.2.1<=5/\dz l s.2.2) (λs=>s.2.1.toNat) ([⟨x,y⟩],1+a,k1) rfl (by simp[nth]) ⟨⟨by simp,by simp,rfl,λi a b=>by simp at b;omega⟩,by simp;omega,by simp;omega,by simp;omega,iD⟩ ?_
  rintro⟨c,m,k⟩ ⟨hc,H9,LF,LG,hd⟩;simp only at hc H9 LF LG hd;have hp:=hc.pos;have hu:=hc.up h0 h1 ⟨by omega,h2.2⟩ ⟨by omega,h3.2⟩ H8.1 (c.length-1) (by omega)
  obtain⟨p,k2,n2,fu,Ia⟩:=fG hd dx (by omega)
  obtain⟨q,k3,n3,l9,hq⟩:=fG fu dy (by omega)
  simp (disch:=omega) [afv];refine bO (λh4=>?_) (λh4=>?_)
  .simp (disch:=omega) [n2,n3]
   refine bB (c++[⟨(nth c (c.length-1)).x+1+p,(nth c (c.length-1)).y+L+q⟩],m-1,k3) (by simp[jM]) ⟨⟨by simp,by simp;omega,?_,λi hi hj=>?_⟩,by simp;omega,by simp;omega,by simp;omega,l9⟩ (by simp;omega)
   .rw[jM,aJ hp];exact hc.first
   .simp at hj
    rw[jM,jM];by_cases fN:i<c.length
    .rw[aJ',aJ']
     exact hc.step i hi fN
    .obtain rfl:i=c.length:=by omega
     rw[aJ',ax',aJ rfl]
     simp only;omega
  .obtain rfl:m=0:=by omega
   exact hK c k hd (by omega) hc _
 cases strict with
 |true =>
  simp at hL;subst hL;simp (disch:=omega) [VW,n1];refine main _ λc k' q1 q2 q3 z=>?_;simp (disch:=omega);exact⟨c,rfl,k',rfl,q1,q2,q3⟩
 |false =>
  simp at hL;subst hL;simp (disch:=omega) [VW,n1];refine main _ λc k' q1 q2 q3 z=>?_;simp (disch:=omega);exact⟨c,rfl,k',rfl,q1,q2,q3⟩
structure Uw(u:Un):Prop where
 table:Cw u.table 0 0 10 30 0
 two:2<=u.table.length
 least:1<=u.least/\u.least<=8
 dF:u.least<=u.dF/\u.dF<=19
 l8:u.gW.length<=2
 PN:∀i,i<u.gW.length->(0<=(nth u.gW i).lo/\(nth u.gW i).hi<=20)/\(nth u.gW i).lo<(nth u.gW i).hi
 up:0<=u.up/\u.up<=2
 down:0<=u.down/\u.down<=2
variable{u:Un}
def Uw.nI(h:Uw u):jc u=0:=by
 have c:=h.table.nI (by omega) (by omega) (by omega) (by omega) (by omega)
 have hp:=h.table.pos;have hf:=h.table.l8;have hu:=h.table.up (by omega) (by omega) (by omega) (by omega) (by omega) (u.table.length-1) (by omega)
 have a1:=h.least;have a2:=h.dF;have a3:=h.l8;have a4:=h.up;have a5:=h.down;have z:dH (m8 u.gW) u.gW.length 0=0:=vU λi _ hi=>by
  have:=h.PN i (by omega)
  rw[m8,ax',ax']
 unfold jc;rw[ax',ax',ax',ax',ax',ax']
abbrev ung(u:Un):V:=.agg [jK u.table,i64 u.least,i64 u.dF,.slice (some 0) 2 (u.gW.map Bd.row),i64 u.up,i64 u.down]
def aw0(hd:dz l k):∃u k',aX F 142 [.bu 0 0] [dk l k]=some (ung u,[dk l k'])/\dz l k'/\Uw u:=by
 suffices h:gz (aX F) 142 [.bu 0 0] [dk l k] λv G=>∃u k',v=ung u/\G=[dk l k']/\dz l k'/\Uw u by
  obtain⟨_,_,h,u,k',rfl,rfl,h1⟩:=h;exact⟨u,k',h,h1⟩
 refine gN rfl rfl ?_;obtain⟨c,k1,n1,iD,kz,hc⟩:=WV hd (x:=0) (y:=0) (dx:=10) (dy:=30) false (by omega) (by omega) (by omega) (by omega)
 obtain⟨a1,k2,n2,fu,WW⟩:=fG iD 8 (by omega)
 obtain⟨a2,k3,n3,l9,WX⟩:=fG fu 3 (by omega)
 obtain⟨a3,k4,n4,tl,ha3⟩:=fG l9 3 (by omega)
 obtain⟨a4,k5,n5,AL,ha4⟩:=fG tl 12 (by omega)
 obtain⟨a5,k6,n6,BU,ha5⟩:=fG AL 3 (by omega)
 simp (disch:=omega) [afz,n1,n2,n3,n4,n5,n6];refine go_loop (λs:List Bd×Int×Nat=>auk (.bu 0 0) s.2.1 [.cj,i64 0,i64 0,.cj,i64 0,i64 0] [jK c,i64 (1+a1),i64 (1+a1+a4),.slice (some 1040) 2 (s.1.map Bd.row),i64 a2,i64 a3] s.1.length [dk l s.2.2])
  (λs=>(∀i,i<s.1.length->(0<=(nth s.1 i).lo/\(nth s.1 i).hi<=20)/\(nth s.1 i).lo<(nth s.1 i).hi)/\0<=s.2.1/\(s.1.length:Int)+s.2.1<=2/\dz l s.2.2) (λs=>s.2.1.toNat) ([],a5,k6) rfl (by simp) ⟨λi h=>by simp at h,by simp;omega,by simp;omega,BU⟩ ?_
 rintro⟨z,m,k⟩ ⟨hz,H9,LF,hd⟩;simp only at hz H9 LF hd;obtain⟨b1,k7,n7,PR,LH⟩:=fG hd 16 (by omega)
 obtain⟨b2,k8,n8,hd8,my⟩:=fG PR 5 (by omega)
 simp (disch:=omega) [afy];refine bO (λh4=>?_) (λh4=>?_)
 .simp (disch:=omega) [n7,n8]
  refine bB (z++[⟨b1,b1+1+b2⟩],m-1,k8) (by simp) ⟨λi hi=>?_,by simp;omega,by simp;omega,hd8⟩ (by simp;omega)
  simp at hi;rw[jM];split
  .exact hz i (by assumption)
  .rw[aJ']
   simp only;omega
 .refine⟨⟨c,1+a1,1+a1+a4,z,a2,a3⟩,⟨rfl,rfl,rfl,rfl,rfl,rfl⟩,k,rfl,hd,?_⟩
  exact⟨hc,kz,by simp only;omega,by simp only;omega,by simp only;omega,hz,by simp only;omega,by simp only;omega⟩
variable{g:Int}
def ahS:(fL u g).length<=(u.dF / g).toNat+1:=by
 refine iO (ui _ _) ?_;simp
def Uw.iK(h:Uw u)(h1:1<=g)(h2:g<=1073741824):iK u g=0:=by
 have a:=ahS (u:=u) (g:=g);have b:=h.dF;have c:=h.least;have d:u.dF / g<=u.dF:=MW _ (by omega)
 unfold Go.Proofs.YtabckmbjnjnegaaGreatDoor.iK;rw[ax (by simp[h.nI]),ax',ax']
def aw2(hd:dz l k)(hu:Uw u):∃s k',aX F 143 [.bu 0 0,un u] [dk l k]=some (us s,[dk l k'])/\dz l k'/\fH u s:=by
 suffices h:∀Q:V->List aM->Prop,(∀s k',dz l k'->fH u s->Q (us s) [dk l k'])->gz (aX F) 143 [.bu 0 0,un u] [dk l k] Q by
  obtain⟨_,_,h,s,k',rfl,rfl,h1⟩:=h (λv G=>∃s k',v=us s/\G=[dk l k']/\dz l k'/\fH u s) λs k' a b=>⟨s,k',rfl,rfl,a,b⟩;exact⟨s,k',h,h1⟩
 intro Q hQ;refine gN rfl rfl ?_;have hc:=hu.nI;have he:=hu.iK (g:=1) (by omega) (by omega)
 have hf:qx u 1=fL u 1:=by simp[qx,he]
 have Ib:=ahS (u:=u) (g:=1);have hm:=hu.dF;obtain⟨a1,k1,n1,iD,WW⟩:=fG hd 5 (by omega)
 obtain⟨a2,k2,n2,fu,WX⟩:=fG iD 7 (by omega)
 obtain⟨a3,k3,n3,l9,ha3⟩:=fG fu 2 (by omega)
 obtain⟨a4,k4,n4,tl,ha4⟩:=fG l9 (fL u 1).length (by omega)
 have off:∀o,fH u ⟨0,a1,o⟩:=λo=>⟨hc,by simp only;omega,.inl rfl⟩
 by_cases h1:0<(fL u 1).length
 .by_cases h2:a2=6
  .simp +contextual (disch:=omega) [-getElem?_pos,Lm,n1,n2,H7,he,hf,h2]
   exact hQ ⟨0,a1,true⟩ k2 fu (off _)
  .by_cases h3:a3=0
   .have h4:a4.toNat<(fL u 1).length:=by omega
    simp +contextual (disch:=omega) [-getElem?_pos,Lm,n1,n2,n3,n4,H7,he,hf,h2,h3,h1,dQ h4];refine hQ ⟨nth (fL u 1) a4.toNat,a1,false⟩ k4 tl ⟨hc,by simp only;omega,.inr ⟨rfl,?_⟩⟩
    exact((DM (tj hc) (by omega)).1 (gw (dQ h4))).1
   .simp +contextual (disch:=omega) [-getElem?_pos,Lm,n1,n2,n3,H7,he,hf,h2,h3,h1]
    exact hQ ⟨0,a1,false⟩ k3 l9 (off _)
 .simp +contextual (disch:=omega) [-getElem?_pos,Lm,n1,n2,H7,he,hf,h1]
  exact hQ ⟨0,a1,decide (a2=6)⟩ k2 fu (off _)
abbrev ma(l:List Un):V:=.slice none 6 (l.map Un.row)
abbrev lF(l:List Us):V:=.slice none 3 (l.map Us.row)
abbrev WY(l:List Un):V:=.slice (some 0) 6 (l.map Un.row)
abbrev LI(l:List Us):V:=.slice (some 0) 3 (l.map Us.row)
structure LJ(a:List Un)(b:List Us):Prop where
 len:a.length=b.length
 unit:∀i,i<a.length->Uw (nth a i)
 state:∀i,i<a.length->fH (nth a i) (nth b i)
def aw3(hd:dz l k){m:Nat}(hm:m<=1000):∃a b k',aX F 97 [.bu 0 0,i64 m] [dk l k]=some (.tuple [WY a,LI b],[dk l k'])/\dz l k'/\LJ a b/\a.length<=m:=by
 suffices h:∀Q:V->List aM->Prop,(∀a b k',dz l k'->LJ a b->a.length<=m->Q (.tuple [WY a,LI b]) [dk l k'])->gz (aX F) 97 [.bu 0 0,i64 m] [dk l k] Q by
  obtain⟨_,_,h,a,b,k',rfl,rfl,h1⟩:=h (λv G=>∃a b k',v=.tuple [WY a,LI b]/\G=[dk l k']/\dz l k'/\LJ a b/\a.length<=m) λa b k' h1 h2 h3=>⟨a,b,k',rfl,rfl,h1,h2,h3⟩;exact⟨a,b,k',h,h1⟩
 intro Q hQ;refine gN rfl rfl ?_;obtain⟨n,k1,n1,iD,hn⟩:=fG hd (m+1) (by omega)
 simp (disch:=omega) [aeL,n1];refine go_loop (λs:List Un×List Us×Int×Nat=>as1 (.bu 0 0) (.slice (some 1023) 6 (s.1.map Un.row)) (.slice (some 1029) 3 (s.2.1.map Us.row)) s.2.2.1 s.1.length s.2.1.length [dk l s.2.2.2])
  (λs=>LJ s.1 s.2.1/\(s.1.length:Int)+s.2.2.1<=m/\0<=s.2.2.1/\dz l s.2.2.2) (λs=>s.2.2.1.toNat) ([],[],n,k1) rfl (by simp) ⟨⟨rfl,by simp,by simp⟩,by simp;omega,by simp;omega,iD⟩ ?_
 rintro⟨a,b,n,k⟩ ⟨tU,h1,h2,hd⟩;simp only at tU h1 h2 hd;obtain⟨u,k2,n2,fu,hu⟩:=aw0 hd;obtain⟨s,k3,n3,l9,hs⟩:=aw2 fu hu;have hl:=tU.len;simp (disch:=omega) [aeK];refine bO (λh4=>?_) (λh4=>?_)
 .simp (disch:=omega) [n2,n3]
  refine bB (a++[u],b++[s],n-1,k3) (by simp) ⟨⟨by simp[hl],λi hi=>?_,λi hi=>?_⟩,by simp;omega,by simp;omega,l9⟩ (by simp;omega)
  .simp at hi
   rw[jM];split
   .exact tU.unit i (by assumption)
   .rw[aJ'];exact hu
  .simp at hi
   rw[jM,jM,<- hl];split
   .exact tU.state i (by assumption)
   .rw[aJ',aJ'];exact hs
 .exact hQ a b k hd tU (by omega)
structure Rt where
 lv:Int
 c:List Pt
 deriving Inhabited
abbrev Rt.row(r:Rt):List V:=[i64 r.lv,jK r.c]
abbrev Fs(l:List Rt):V:=.slice none 2 (l.map Rt.row)
structure Gt where
 r:List Rt
 dF:Int
 move:Int
 deriving Inhabited
abbrev Gt.row(g:Gt):List V:=[Fs g.r,i64 g.dF,i64 g.move]
abbrev gt(g:Gt):V:=.agg g.row
def rf(l:List Rt)(i:Nat):Int :=
 if ¬(0<=(nth l i).lv/\(nth l i).lv<=16777216) then 1
 else if 0<i/\(nth l i).lv<=(nth l (i-1)).lv then 4
 else if iu (nth l i).c≠0 then iu (nth l i).c
 else if ¬((nth (nth l i).c 0).x=0/\(nth (nth l i).c 0).y=0) then 3
 else if 1073741824<(nth (nth l i).c ((nth l i).c.length-1)).y then 1 else 0
def mb(g:Gt):Int :=
 if g.r.length=0 then 3 else if 10<g.r.length then 10 else if dH (rf g.r) g.r.length 0≠0 then dH (rf g.r) g.r.length 0
 else if ¬((0<=g.dF/\g.dF<=1000)/\0<=g.move/\g.move<=1000) then 1 else 0
def DP(g:Gt)(G:List aM):aX F 106 [gt g] G=some (i64 (mb g),G) :=
 bD rfl rfl (by
  obtain⟨l,dF,move⟩:=g;generalize hW:mb ⟨l,dF,move⟩=W;unfold mb at hW;simp only at hW;simp (disch:=omega) [-getElem?_pos,-Int.natCast_eq_zero,aeV];refine bO (λh1=>?_) (λh1=>bO (λh2=>?_) (λh2=>?_))
  .rw[aJ']at hW
   exact hW
  .rw[ax',aJ']at hW
   exact hW
  .rw[ax',ax']at hW
   refine go_loop (λi:Nat=>atf (Fs l) l.length i [Fs l,i64 dF,i64 move] G) (λi=>i<=l.length/\dH (rf l) (l.length-i) i=dH (rf l) l.length 0) (λi=>l.length-i) 0 rfl (by simp) ⟨by omega,rfl⟩ ?_
   rintro i ⟨hi,hq⟩;simp (disch:=omega) [-getElem?_pos,-Int.natCast_eq_zero,aeU];refine bO (λh3=>?_) (λh3=>?_)
   .have h3:i<l.length:=by omega
    have h4:((i:Int)-1).toNat=i-1:=by omega
    rw[kl h3]at hq;have stop:rf l i≠0->W=rf l i:=λh=>by
     rw[ax h]at hq;rw[<-hq,aJ h]at hW;exact hW.symm
    unfold rf at stop;by_cases a1:0<=(nth l i).lv/\(nth l i).lv<=16777216
    .have a2:(!decide (0<=(nth l i).lv) || !decide ((nth l i).lv<=16777216))=false:=by simp;omega
     have a3:0<i->0<=(i:Int)-1:=by omega
     have a4:i-1<l.length:=by omega
     rw[ax']at stop
     by_cases b1:0<i/\(nth l i).lv<=(nth l (i-1)).lv
     .rw[aJ b1]at stop
      have b2:0<i:=b1.1;have b3:=b1.2;have b4:0<=(i:Int)-1:=by omega
      simp (disch:=omega) [-getElem?_pos,-Int.natCast_eq_zero,bc (l:=l),h3,dZ,dj,a2,b2,b3,b4,h4,a4];exact(stop (by omega)).symm
     .rw[ax b1]at stop
      by_cases c1:iu (nth l i).c=0
      .rw[ax']at stop
       have hp:=w6 c1;have hfw:=(oG c1).l8;have c2:(((nth l i).c.length:Int)-1).toNat=(nth l i).c.length-1:=by omega
       have c3:(nth l i).c.length-1<(nth l i).c.length:=by omega
       have c4:0<=((nth l i).c.length:Int)-1:=by omega
       by_cases d1:(nth (nth l i).c 0).x=0/\(nth (nth l i).c 0).y=0
       .rw[ax']at stop
        obtain⟨d2,d3⟩:=d1;by_cases e1:1073741824<(nth (nth l i).c ((nth l i).c.length-1)).y
        .rw[aJ e1]at stop
         rcases nV i with b6|b6
         .subst b6
          simp (disch:=omega) [-getElem?_pos,-Int.natCast_eq_zero,bc (l:=l),h3,dZ,dj,qw,oc,a2,c1,V.iI,eD,kc,bc (l:=(nth l 0).c),hp,c2,c3,c4,d2,d3,e1];exact(stop (by omega)).symm
         .have b7:¬ (nth l i).lv<=(nth l (i-1)).lv:=λh=>b1 ⟨b6,h⟩
          have b4:0<=(i:Int)-1:=by omega
          simp (disch:=omega) [-getElem?_pos,-Int.natCast_eq_zero,bc (l:=l),h3,dZ,dj,qw,oc,a2,c1,b6,b7,b4,h4,a4,V.iI,eD,kc,bc (l:=(nth l i).c),hp,c2,c3,c4,d2,d3,e1];exact(stop (by omega)).symm
        .have hz:rf l i=0:=by
          unfold rf;rw[ax',ax b1,ax',ax',ax e1]
         rw[aJ hz]at hq;rcases nV i with b6|b6
         .subst b6
          simp (disch:=omega) [-getElem?_pos,-Int.natCast_eq_zero,bc (l:=l),h3,dZ,dj,qw,oc,a2,c1,V.iI,eD,kc,bc (l:=(nth l 0).c),hp,c2,c3,c4,d2,d3,e1];exact bB' (0+1) ⟨by omega,hq⟩
         .have b7:¬ (nth l i).lv<=(nth l (i-1)).lv:=λh=>b1 ⟨b6,h⟩
          have b4:0<=(i:Int)-1:=by omega
          simp (disch:=omega) [-getElem?_pos,-Int.natCast_eq_zero,bc (l:=l),h3,dZ,dj,qw,oc,a2,c1,b6,b7,b4,h4,a4,V.iI,eD,kc,bc (l:=(nth l i).c),hp,c2,c3,c4,d2,d3,e1];exact bB' (i+1) ⟨by omega,hq⟩
       .rw[aJ d1]at stop
        have d4:(decide ((nth (nth l i).c 0).x=0)&&decide ((nth (nth l i).c 0).y=0))=false:=by simpa using d1
        have d5:((nth (nth l i).c 0).x==0&&(nth (nth l i).c 0).y==0)=false:=by simpa using d1
        rcases nV i with b6|b6
        .subst b6
         simp (disch:=omega) [-getElem?_pos,-Int.natCast_eq_zero,bc (l:=l),h3,dZ,dj,qw,oc,a2,c1,V.iI,eD,kc,bc (l:=(nth l 0).c),hp,d4,d5];exact(stop (by omega)).symm
        .have b7:¬ (nth l i).lv<=(nth l (i-1)).lv:=λh=>b1 ⟨b6,h⟩
         have b4:0<=(i:Int)-1:=by omega
         simp (disch:=omega) [-getElem?_pos,-Int.natCast_eq_zero,bc (l:=l),h3,dZ,dj,qw,oc,a2,c1,b6,b7,b4,h4,a4,V.iI,eD,kc,bc (l:=(nth l i).c),hp,d4,d5];exact(stop (by omega)).symm
      .rw[aJ c1]at stop
       rcases nV i with b6|b6
       .subst b6
        simp (disch:=omega) [-getElem?_pos,-Int.natCast_eq_zero,bc (l:=l),h3,dZ,dj,qw,oc,a2,c1,c1];exact(stop (by omega)).symm
       .have b7:¬ (nth l i).lv<=(nth l (i-1)).lv:=λh=>b1 ⟨b6,h⟩
        have b4:0<=(i:Int)-1:=by omega
        simp (disch:=omega) [-getElem?_pos,-Int.natCast_eq_zero,bc (l:=l),h3,dZ,dj,qw,oc,a2,c1,b6,b7,b4,h4,a4,c1];exact(stop (by omega)).symm
    .rw[aJ a1]at stop
     have a2:(!decide (0<=(nth l i).lv) || !decide ((nth l i).lv<=16777216))=true:=by simp;omega
     simp (disch:=omega) [-getElem?_pos,-Int.natCast_eq_zero,bc (l:=l),h3,dZ,dj,a2];exact(stop (by omega)).symm
   .obtain rfl:i=l.length:=by omega
    rw[l7]at hq;rw[<-hq,ax']at hW
    by_cases m1:0<=dF/\dF<=1000
    .have m2:(!decide (0<=dF) || !decide (dF<=1000))=false:=by simp;omega
     by_cases m3:0<=move/\move<=1000
     .have m4:(!decide (0<=move) || !decide (move<=1000))=false:=by simp;omega
      rw[ax']at hW
      simp (disch:=omega) [-getElem?_pos,-Int.natCast_eq_zero,dZ,dj,m2,m4];exact hW
     .have m4:(!decide (0<=move) || !decide (move<=1000))=true:=by simp;omega
      rw[aJ']at hW
      simp (disch:=omega) [-getElem?_pos,-Int.natCast_eq_zero,dZ,dj,m2,m4];exact hW
    .have m2:(!decide (0<=dF) || !decide (dF<=1000))=true:=by simp;omega
     rw[aJ']at hW
     simp (disch:=omega) [-getElem?_pos,-Int.natCast_eq_zero,dZ,dj,m2];exact hW)
def DQ(g:Gt)(G:List aM):aX F 110 [gt g] G=some (i64 (mb g),G) :=
 bD rfl rfl (by
  obtain⟨l,dF,move⟩:=g;generalize hW:mb ⟨l,dF,move⟩=W;unfold mb at hW;simp only at hW;simp (disch:=omega) [-getElem?_pos,-Int.natCast_eq_zero,ae2];refine bO (λh1=>?_) (λh1=>bO (λh2=>?_) (λh2=>?_))
  .rw[aJ']at hW
   exact hW
  .rw[ax',aJ']at hW
   exact hW
  .rw[ax',ax']at hW
   refine go_loop (λi:Nat=>atr (Fs l) l.length i [Fs l,i64 dF,i64 move] G) (λi=>i<=l.length/\dH (rf l) (l.length-i) i=dH (rf l) l.length 0) (λi=>l.length-i) 0 rfl (by simp) ⟨by omega,rfl⟩ ?_
   rintro i ⟨hi,hq⟩;simp (disch:=omega) [-getElem?_pos,-Int.natCast_eq_zero,ae1];refine bO (λh3=>?_) (λh3=>?_)
   .have h3:i<l.length:=by omega
    have h4:((i:Int)-1).toNat=i-1:=by omega
    rw[kl h3]at hq;have stop:rf l i≠0->W=rf l i:=λh=>by
     rw[ax h]at hq;rw[<-hq,aJ h]at hW;exact hW.symm
    unfold rf at stop;by_cases a1:0<=(nth l i).lv/\(nth l i).lv<=16777216
    .have a2:(!decide (0<=(nth l i).lv) || !decide ((nth l i).lv<=16777216))=false:=by simp;omega
     have a3:0<i->0<=(i:Int)-1:=by omega
     have a4:i-1<l.length:=by omega
     rw[ax']at stop
     by_cases b1:0<i/\(nth l i).lv<=(nth l (i-1)).lv
     .rw[aJ b1]at stop
      have b2:0<i:=b1.1;have b3:=b1.2;have b4:0<=(i:Int)-1:=by omega
      simp (disch:=omega) [-getElem?_pos,-Int.natCast_eq_zero,bc (l:=l),h3,dZ,dj,a2,b2,b3,b4,h4,a4];exact(stop (by omega)).symm
     .rw[ax b1]at stop
      by_cases c1:iu (nth l i).c=0
      .rw[ax']at stop
       have hp:=w6 c1;have hfw:=(oG c1).l8;have c2:(((nth l i).c.length:Int)-1).toNat=(nth l i).c.length-1:=by omega
       have c3:(nth l i).c.length-1<(nth l i).c.length:=by omega
       have c4:0<=((nth l i).c.length:Int)-1:=by omega
       by_cases d1:(nth (nth l i).c 0).x=0/\(nth (nth l i).c 0).y=0
       .rw[ax']at stop
        obtain⟨d2,d3⟩:=d1;by_cases e1:1073741824<(nth (nth l i).c ((nth l i).c.length-1)).y
        .rw[aJ e1]at stop
         rcases nV i with b6|b6
         .subst b6
          simp (disch:=omega) [-getElem?_pos,-Int.natCast_eq_zero,bc (l:=l),h3,dZ,dj,qw,oc,a2,c1,V.iI,eD,kc,bc (l:=(nth l 0).c),hp,c2,c3,c4,d2,d3,e1];exact(stop (by omega)).symm
         .have b7:¬ (nth l i).lv<=(nth l (i-1)).lv:=λh=>b1 ⟨b6,h⟩
          have b4:0<=(i:Int)-1:=by omega
          simp (disch:=omega) [-getElem?_pos,-Int.natCast_eq_zero,bc (l:=l),h3,dZ,dj,qw,oc,a2,c1,b6,b7,b4,h4,a4,V.iI,eD,kc,bc (l:=(nth l i).c),hp,c2,c3,c4,d2,d3,e1];exact(stop (by omega)).symm
        .have hz:rf l i=0:=by
          unfold rf;rw[ax',ax b1,ax',ax',ax e1]
         rw[aJ hz]at hq;rcases nV i with b6|b6
         .subst b6
          simp (disch:=omega) [-getElem?_pos,-Int.natCast_eq_zero,bc (l:=l),h3,dZ,dj,qw,oc,a2,c1,V.iI,eD,kc,bc (l:=(nth l 0).c),hp,c2,c3,c4,d2,d3,e1];exact bB' (0+1) ⟨by omega,hq⟩
         .have b7:¬ (nth l i).lv<=(nth l (i-1)).lv:=λh=>b1 ⟨b6,h⟩
          have b4:0<=(i:Int)-1:=by omega
          simp (disch:=omega) [-getElem?_pos,-Int.natCast_eq_zero,bc (l:=l),h3,dZ,dj,qw,oc,a2,c1,b6,b7,b4,h4,a4,V.iI,eD,kc,bc (l:=(nth l i).c),hp,c2,c3,c4,d2,d3,e1];exact bB' (i+1) ⟨by omega,hq⟩
       .rw[aJ d1]at stop
        have d4:(decide ((nth (nth l i).c 0).x=0)&&decide ((nth (nth l i).c 0).y=0))=false:=by simpa using d1
        have d5:((nth (nth l i).c 0).x==0&&(nth (nth l i).c 0).y==0)=false:=by simpa using d1
        rcases nV i with b6|b6
        .subst b6
         simp (disch:=omega) [-getElem?_pos,-Int.natCast_eq_zero,bc (l:=l),h3,dZ,dj,qw,oc,a2,c1,V.iI,eD,kc,bc (l:=(nth l 0).c),hp,d4,d5];exact(stop (by omega)).symm
        .have b7:¬ (nth l i).lv<=(nth l (i-1)).lv:=λh=>b1 ⟨b6,h⟩
         have b4:0<=(i:Int)-1:=by omega
         simp (disch:=omega) [-getElem?_pos,-Int.natCast_eq_zero,bc (l:=l),h3,dZ,dj,qw,oc,a2,c1,b6,b7,b4,h4,a4,V.iI,eD,kc,bc (l:=(nth l i).c),hp,d4,d5];exact(stop (by omega)).symm
      .rw[aJ c1]at stop
       rcases nV i with b6|b6
       .subst b6
        simp (disch:=omega) [-getElem?_pos,-Int.natCast_eq_zero,bc (l:=l),h3,dZ,dj,qw,oc,a2,c1,c1];exact(stop (by omega)).symm
       .have b7:¬ (nth l i).lv<=(nth l (i-1)).lv:=λh=>b1 ⟨b6,h⟩
        have b4:0<=(i:Int)-1:=by omega
        simp (disch:=omega) [-getElem?_pos,-Int.natCast_eq_zero,bc (l:=l),h3,dZ,dj,qw,oc,a2,c1,b6,b7,b4,h4,a4,c1];exact(stop (by omega)).symm
    .rw[aJ a1]at stop
     have a2:(!decide (0<=(nth l i).lv) || !decide ((nth l i).lv<=16777216))=true:=by simp;omega
     simp (disch:=omega) [-getElem?_pos,-Int.natCast_eq_zero,bc (l:=l),h3,dZ,dj,a2];exact(stop (by omega)).symm
   .obtain rfl:i=l.length:=by omega
    rw[l7]at hq;rw[<-hq,ax']at hW
    by_cases m1:0<=dF/\dF<=1000
    .have m2:(!decide (0<=dF) || !decide (dF<=1000))=false:=by simp;omega
     by_cases m3:0<=move/\move<=1000
     .have m4:(!decide (0<=move) || !decide (move<=1000))=false:=by simp;omega
      rw[ax']at hW
      simp (disch:=omega) [-getElem?_pos,-Int.natCast_eq_zero,dZ,dj,m2,m4];exact hW
     .have m4:(!decide (0<=move) || !decide (move<=1000))=true:=by simp;omega
      rw[aJ']at hW
      simp (disch:=omega) [-getElem?_pos,-Int.natCast_eq_zero,dZ,dj,m2,m4];exact hW
    .have m2:(!decide (0<=dF) || !decide (dF<=1000))=true:=by simp;omega
     rw[aJ']at hW
     simp (disch:=omega) [-getElem?_pos,-Int.natCast_eq_zero,dZ,dj,m2];exact hW)
def uW[Inhabited α]{l:List α}{i:Nat}(h:i<l.length):l.drop i=nth l i::l.drop (i+1):=by
 rw[CG h];simp[nth,List.getD,h]
def iE:List Int->List Int->Int
 |[],[]=>0
 |[],_::_ => -1
 |_::_,[]=>1
 |a::p,b::q=>if a<b then -1 else if b<a then 1 else iE p q
def WZ(a:Int)(G:List aM):aX F 218 [i64 a] G=some (.bool false,G) :=
 bD rfl rfl (by simp[agI])
def PS(a b:Int)(G:List aM):aX F 207 [i64 a,i64 b] G=some (i64 (if a<b then -1 else if b<a then 1 else 0),G) :=
 bD rfl rfl (by
  by_cases h1:a<b
  .simp[Pp,WZ,h1]
  .by_cases h2:b<a
   .simp[Pp,WZ,h1,h2]
   .simp[Pp,WZ,h1,h2])
def aw5(p q:List Int)(hp:p.length<=4294967296)(G:List aM):aX F 251 [ints p,ints q] G=some (i64 (iE p q),G) :=
 bD rfl rfl (by
  generalize hW:iE p q=W;simp (disch:=omega) [-getElem?_pos,ahk];refine go_loop (λi:Nat=>awi (ints p) (ints q) (ints p) p.length i G) (λi=>i<=p.length/\i<=q.length/\iE (p.drop i) (q.drop i)=W) (λi=>p.length-i) 0 rfl (by simp) ⟨by omega,by omega,by simpa using hW⟩ ?_
  rintro i ⟨h1,h2,h3⟩;simp (disch:=omega) [-getElem?_pos,ahj];refine bO (λh4=>?_) (λh4=>?_)
  .have h4:i<p.length:=by omega
   rw[uW h4]at h3;by_cases h5:i<q.length
   .rw[uW h5,iE]at h3
    have h6:¬q.length<=i:=by omega
    by_cases h7:nth p i<nth q i
    .rw[aJ h7]at h3
     simp (disch:=omega) [-getElem?_pos,dQ,PS,h6,h7];exact h3
    .rw[ax h7]at h3
     by_cases h8:nth q i<nth p i
     .rw[aJ h8]at h3
      simp (disch:=omega) [-getElem?_pos,dQ,PS,h6,h7,h8];exact h3
     .rw[ax h8]at h3
      simp (disch:=omega) [-getElem?_pos,dQ,PS,h6,h7,h8];exact bB' (i+1) ⟨by omega,by omega,h3⟩
   .obtain rfl:i=q.length:=by omega
    rw[CH,iE]at h3;simp (disch:=omega) [-getElem?_pos,dQ];exact h3
  .obtain rfl:i=p.length:=by omega
   rw[CH]at h3;refine bO (λh5=>?_) (λh5=>?_)
   .have h6:p.length<q.length:=by omega
    rw[uW h6,iE]at h3;exact h3
   .obtain h6:q.drop p.length=[]:=Zj.2 (by omega)
    rw[h6,iE]at h3;exact h3)
abbrev PT(a:Int×Int):V:=.agg [i64 a.1,i64 a.2]
def lG(a b:Int×Int)(p q:List Int):Prop:=if a.1≠b.1 then b.1<a.1 else if a.2≠b.2 then a.2<b.2 else iE p q<0
instance {a b:Int×Int} {p q:List Int}:Decidable (lG a b p q):=by unfold lG;infer_instance
def aw6(a b:Int×Int)(p q:List Int)(hp:p.length<=4294967296)(G:List aM):aX F 243 [PT a,PT b,ints p,ints q] G=some (.bool (decide (lG a b p q)),G) :=
 bD rfl rfl (by
  generalize hW:decide (lG a b p q)=W;simp only[lG]at hW;obtain⟨a1,a2⟩:=a;obtain⟨b1,b2⟩:=b;simp only at hW;by_cases h1:a1=b1
  .by_cases h2:a2=b2
   .simp[PC,aw5 p q hp,h1,h2]
    simpa [h1,h2] using hW
   .simp[PC,h1,h2]
    simpa [h1,h2] using hW
  .simp[PC,h1]
   simpa [h1] using hW)
def aw7(p q:List Int)(hp:p.length<=4294967296)(G:List aM):aX F 214 [ints p,ints q] G=some (.bool (decide (iE p q<0)),G) :=
 bD rfl rfl (by
  generalize hW:iE p q=W;simp (disch:=omega) [-getElem?_pos,agE];refine go_loop (λi:Nat=>avi (ints p) (ints q) p.length i G) (λi=>i<=p.length/\i<=q.length/\iE (p.drop i) (q.drop i)=W) (λi=>p.length-i) 0 rfl (by simp) ⟨by omega,by omega,by simpa using hW⟩ ?_
  rintro i ⟨h1,h2,h3⟩;simp (disch:=omega) [-getElem?_pos,agD];refine bO (λh4=>?_) (λh4=>?_)
  .have h4:i<p.length:=by omega
   rw[uW h4]at h3;by_cases h5:i<q.length
   .rw[uW h5,iE]at h3
    have h6:¬q.length<=i:=by omega
    by_cases h7:nth p i<nth q i
    .rw[aJ h7]at h3
     have h9:¬nth p i=nth q i:=by omega
     subst h3;simp (disch:=omega) [-getElem?_pos,dQ,h6,h7,h9,h5]
    .rw[ax h7]at h3
     by_cases h8:nth q i<nth p i
     .rw[aJ h8]at h3
      have h9:¬nth p i=nth q i:=by omega
      subst h3;simp (disch:=omega) [-getElem?_pos,dQ,h6,h7,h9,h5]
     .rw[ax h8]at h3
      have h9:nth p i=nth q i:=by omega
      simp (disch:=omega) [-getElem?_pos,dQ,h6,h9,h5];exact bB' (i+1) ⟨by omega,by omega,h3⟩
   .obtain rfl:i=q.length:=by omega
    rw[CH,iE]at h3;subst h3;simp (disch:=omega) [-getElem?_pos,dQ]
  .obtain rfl:i=p.length:=by omega
   rw[CH]at h3;by_cases h6:p.length<q.length
   .rw[uW h6,iE]at h3
    subst h3;simp[h6]
   .have h7:q.drop p.length=[]:=Zj.2 (by omega)
    rw[h7,iE]at h3;subst h3;simp;omega)
def ahT(a b:Int×Int)(p q:List Int)(hp:p.length<=4294967296)(G:List aM):aX F 198 [PT a,PT b,ints p,ints q] G=some (.bool (decide (lG a b p q)),G) :=
 bD rfl rfl (by
  generalize hW:decide (lG a b p q)=W;simp only[lG]at hW;obtain⟨a1,a2⟩:=a;obtain⟨b1,b2⟩:=b;simp only at hW;by_cases h1:a1=b1
  .by_cases h2:a2=b2
   .simp[Po,aw7 p q hp,h1,h2]
    simpa [h1,h2] using hW
   .simp[Po,h1,h2]
    simpa [h1,h2] using hW
  .simp[Po,h1]
   simpa [h1] using hW)
def lp(u:Un)(s:Us)(q:Int):Prop:=fH u s/\lD u s q
noncomputable instance {u:Un} {s:Us} {q:Int}:Decidable (lp u s q):=by unfold lp;infer_instance
def jN(s:Us)(q:Int):Int:=if 0<q/\s.cF=0 then 1 else 0
noncomputable def BW:List Un->List Us->List Int->Int×Int×Int->Option (Int×Int×Int)
 |u::us,s::ss,f::fs,a=>if lp u s f then BW us ss fs (a.1+f,a.2.1+pow u f,a.2.2+jN s f) else none
 |_,_,_,a=>some a
noncomputable def Ft(us:List Un)(ss:List Us)(fs:List Int):Option (Int×Int×Int):=if us.length=ss.length/\us.length=fs.length then BW us ss fs (0,0,0) else none
def Ic:Option (Int×Int×Int)->V
 |some (a,b,c)=>.tuple [i64 a,i64 b,i64 c,.bool true]
 |none=>.tuple [i64 0,i64 0,i64 0,.bool false]
variable{s:Us}{q:Int}
def PU(h:lp u s q):0<=q/\q<=1073741824:=by
 obtain⟨⟨hc,_⟩,h2⟩:=h;have hu:=tj hc;have:=hu.least;have:=hu.WJ;unfold lD at h2;split at h2
 .omega
 .have a:=h2.2.2.1
  have b:=h2.2.2.2.1;omega
def PV:0<=pow u q/\pow u q<=1073741824:=by
 unfold pow;split
 next h=>
  have hu:=tj h.1;have hp:=hu.cv.pos;have a:=H6 hu.cv q;have b:=hu.top;have c:=(hu.cv.y0 0 (by omega)).1
  omega
 .omega
def W0:0<=jN s q/\jN s q<=1:=by unfold jN;split<;>omega
def ahU(us:List Un)(ss:List Us)(fs:List Int)(hn:us.length<=1000)(G:List aM):aX F 161 [ma us,lF ss,ints fs] G=some (Ic (Ft us ss fs),G) :=
 bD rfl rfl (by
  generalize hW:Ic (Ft us ss fs)=W;unfold Ft at hW;by_cases h1:us.length=ss.length
  .by_cases h2:us.length=fs.length
   .rw[aJ ⟨h1,h2⟩]at hW
    simp +contextual (disch:=omega) [-getElem?_pos,Pj,<- h1,<- h2];refine go_loop (λx:Nat×Int×Int×Int=>auA (lF ss) (ints fs) x.2.1 x.2.2.1 x.2.2.2 (ma us) us.length x.1 G)
     (λx=>x.1<=us.length/\Ic (BW (us.drop x.1) (ss.drop x.1) (fs.drop x.1) (x.2.1,x.2.2.1,x.2.2.2))=W/\(0<=x.2.1/\x.2.1<=1073741824*(x.1:Int))/\(0<=x.2.2.1/\x.2.2.1<=1073741824*(x.1:Int))/\0<=x.2.2.2/\x.2.2.2<=x.1) (λx=>us.length-x.1) (0,0,0,0) rfl (by simp) (by simpa using hW) ?_
    rintro⟨i,a,b,c⟩ ⟨hi,hq,ha,hb,hc⟩;simp only at hi hq ha hb hc;simp +contextual (disch:=omega) [-getElem?_pos,afT];refine bO (λh4=>?_) (λh4=>?_)
    .have h4:i<us.length:=by omega
     have h5:i<ss.length:=by omega
     have h6:i<fs.length:=by omega
     rw[uW h4,uW h5,uW h6,BW]at hq;by_cases h7:lp (nth us i) (nth ss i) (nth fs i)
     .rw[aJ h7]at hq
      have r1:=PU h7;have r2:=PV (u:=nth us i) (q:=nth fs i);have r3:=W0 (s:=nth ss i) (q:=nth fs i);have h8:decide (fH (nth us i) (nth ss i)/\lD (nth us i) (nth ss i) (nth fs i))=true:=fJ h7;simp only at hq;have W1:i+1<=us.length/\Ic (BW (us.drop (i+1)) (ss.drop (i+1)) (fs.drop (i+1)) (a+nth fs i,b+pow (nth us i) (nth fs i),c+jN (nth ss i) (nth fs i)))=W /\
        (0<=a+nth fs i/\a+nth fs i<=1073741824*((i+1:Nat):Int))/\(0<=b+pow (nth us i) (nth fs i)/\b+pow (nth us i) (nth fs i)<=1073741824*((i+1:Nat):Int))/\0<=c+jN (nth ss i) (nth fs i)/\c+jN (nth ss i) (nth fs i)<=(i+1:Nat) :=
       ⟨by omega,hq,by omega,by omega,by omega⟩
      have hN:=WO (nth us i) (nth ss i) (nth fs i) [];have e:v7 (nth us i) (nth ss i) (nth fs i)=0:=by
       obtain⟨⟨q1,q2⟩,q3⟩:=h7;simp[v7,q1,q3,show fH (nth us i) (nth ss i) from⟨q1,q2⟩]
      simp only[e,if_true]at hN;by_cases h9:0<nth fs i
      .by_cases il:(nth ss i).cF=0
       .have mQ:jN (nth ss i) (nth fs i)=1:=by simp[jN,h9,il]
        simp +contextual (disch:=omega) [-getElem?_pos,bc (l:=us),bc (l:=ss),dQ,hN,WN,h9];simp +contextual (disch:=omega) [-getElem?_pos,il];exact bB (i+1,a+nth fs i,b+pow (nth us i) (nth fs i),c+jN (nth ss i) (nth fs i)) (by simp[mQ]) W1 (by simp;omega)
       .have mQ:jN (nth ss i) (nth fs i)=0:=by simp[jN,il]
        simp +contextual (disch:=omega) [-getElem?_pos,bc (l:=us),bc (l:=ss),dQ,hN,WN,h9];simp +contextual (disch:=omega) [-getElem?_pos,il];exact bB (i+1,a+nth fs i,b+pow (nth us i) (nth fs i),c+jN (nth ss i) (nth fs i)) (by simp[mQ]) W1 (by simp;omega)
      .have mQ:jN (nth ss i) (nth fs i)=0:=by simp[jN,h9]
       simp +contextual (disch:=omega) [-getElem?_pos,bc (l:=us),bc (l:=ss),dQ,hN,WN,h9];exact bB (i+1,a+nth fs i,b+pow (nth us i) (nth fs i),c+jN (nth ss i) (nth fs i)) (by simp[mQ]) W1 (by simp;omega)
     .rw[ax h7]at hq
      have hN:=WO (nth us i) (nth ss i) (nth fs i) [];have e:¬v7 (nth us i) (nth ss i) (nth fs i)=0:=λe=>by
       unfold v7 at e;split at e
       .contradiction
       .split at e
        .cases e
        .split at e
         .cases e
         next a1 a2 a3=>
          exact h7 ⟨jf a2,jf a3⟩
      simp only[e,if_false]at hN;simp +contextual (disch:=omega) [-getElem?_pos,bc (l:=us),bc (l:=ss),dQ,hN,e];exact hq
    .obtain rfl:i=us.length:=by omega
     rw[CH,BW]at hq
     .exact hq
     .intro u mN s ss' f fs' e;cases e
   .rw[ax (λh=>h2 h.2)]at hW
    have h3:¬ss.length=fs.length:=by omega
    simp +contextual (disch:=omega) [-getElem?_pos,Pj,h1];refine jb (λh=>?_) (λh=>?_)
    .exact hW
    .simp[-List.length_eq_zero_iff,-Int.natCast_eq_zero]at h
     omega
  .rw[ax (λh=>h1 h.1)]at hW
   simp +contextual (disch:=omega) [-getElem?_pos,Pj];refine jb (λh=>?_) (λh=>?_)
   .exact hW
   .simp[-List.length_eq_zero_iff,-Int.natCast_eq_zero]at h
    omega)
noncomputable def tV(u:Un)(s:Us)(g:Int):List Int:=(dedup (qg (fL u g++[0,s.cF]))).filter λq=>decide (lp u s q)
noncomputable abbrev PX(u:Un)(s:Us)(q:Int):List V:=[i64 q,i64 (pow u q),i64 (jN s q)]
def jV[Inhabited α]{l:List α}{i:Nat}(h:i<l.length):l.take (i+1)=l.take i++[nth l i]:=by
 rw[uj,bc h];rfl
def tW[Inhabited α]{l m:List α}{i:Nat}(h:i<l.length):nth (l++m) i=nth l i:=by
 simp[nth,rP,h]
def ahV{L Z:List Int}{G:List aM}{K:cT}(hL:L.length<=4294967296)
  (hK:∀z,K (.exit 0) ⟨[(3,.bn 3 0),(4,.bn 4 0),(10,.slice (some 1061) 3 ((L.filter λq=>decide (lp u s q)).map (PX u s))),(30,.bY 20026 1 L.length),(31,i64 L.length),(32,i64 L.length),(33,z)],[(3,u.row),(4,s.row),(20026,dM (L++Z))],[(1061,(L.filter λq=>decide (lp u s q)).length)],G⟩) :
  go (aX F) ahi ⟨[(3,.bn 3 0),(4,.bn 4 0),(10,.cj),(30,.bY 20026 1 L.length),(31,i64 L.length),(32,i64 0)],[(3,u.row),(4,s.row),(20026,dM (L++Z))],[],G⟩ K:=by
 refine go_loop (λi:Nat=>awf (.slice (some 1061) 3 (((L.take i).filter λq=>decide (lp u s q)).map (PX u s))) L.length L.length i u.row s.row (dM (L++Z)) ((L.take i).filter λq=>decide (lp u s q)).length G) (λi=>i<=L.length) (λi=>L.length-i) 0 rfl (by simp) (by omega) ?_
 intro i hi;have hlen:((L.take i).filter λq=>decide (lp u s q)).length<=i:=iO (ui _ _) (by simp;omega)
 simp (disch:=omega) [ahh];refine bO (λh1=>?_) (λh1=>?_)
 .have h1:i<L.length:=by omega
  have h2:i<(L++Z).length:=by simp;omega
  have hM:=awW u s (nth L i) [];by_cases h3:lp u s (nth L i)
  .have h4:decide (fH u s/\lD u s (nth L i))=true:=fJ h3
   rw[h4]at hM;have h5:(L.take (i+1)).filter (λq=>decide (lp u s q))=(L.take i).filter (λq=>decide (lp u s q))++[nth L i]:=by
    rw[jV h1,xp];simp[h3]
   by_cases h6:0<nth L i
   .by_cases h7:s.cF=0
    .have h8:jN s (nth L i)=1:=by simp[jN,h6,h7]
     simp (disch:=omega) [nG h2,tW h1,hM,LD,h6];simp (disch:=omega) [h7];exact bB (i+1) (by rw[h5];simp[h8]) (by omega) (by omega)
    .have h8:jN s (nth L i)=0:=by simp[jN,h7]
     simp (disch:=omega) [nG h2,tW h1,hM,LD,h6];simp (disch:=omega) [h7];exact bB (i+1) (by rw[h5];simp[h8]) (by omega) (by omega)
   .have h8:jN s (nth L i)=0:=by simp[jN,h6]
    simp (disch:=omega) [nG h2,tW h1,hM,LD,h6];exact bB (i+1) (by rw[h5];simp[h8]) (by omega) (by omega)
  .have h4:decide (fH u s/\lD u s (nth L i))=false:=decide_eq_false h3
   rw[h4]at hM;have h5:(L.take (i+1)).filter (λq=>decide (lp u s q))=(L.take i).filter (λq=>decide (lp u s q)):=by
    rw[jV h1,xp];simp[h3]
   simp (disch:=omega) [nG h2,tW h1,hM];exact bB (i+1) (by rw[h5];simp) (by omega) (by omega)
 .obtain rfl:i=L.length:=by omega
  rw[mL];exact hK _
def aw8(hv:fH u s)(hg:1<=g/\g<=1073741824)(G:List aM):aX F 250 [un u,us s,i64 g] G =
  some (if iK u g=0 then .tuple [.slice (some 0) 3 ((tV u s g).map (PX u s)),.bool true] else .tuple [.slice (some 0) 3 [],.bool false],G) :=
 bD rfl rfl (by
  by_cases he:iK u g=0
  .have hlen:(fL u g).length<=200:=by
    unfold iK at he;split at he
    .contradiction
    .split at he
     .cases he
     .split at he
      .cases he
      .omega
   have hf:qx u g=fL u g:=by simp[qx,he]
   have hd:=HI (qg (fL u g++[0,s.cF]));have hs:=(DD (fL u g++[0,s.cF])).length_eq;simp at hs;have hm:xC 1 (qg (fL u g++[0,s.cF]))=dedup (qg (fL u g++[0,s.cF]))++List.replicate ((qg (fL u g++[0,s.cF])).length-(dedup (qg (fL u g++[0,s.cF]))).length) 0:=rfl;have KM:∀l,xC 0 l=qg l:=λ_=>rfl;have hc:(tV u s g)=(dedup (qg (fL u g++[0,s.cF]))).filter λq=>decide (lp u s q):=rfl;rw[aJ he,hc];have ha:∀l:List Int,dM l++[i64 0,i64 s.cF]=dM (l++[0,s.cF]):=λl=>by simp[dM]
   have hz:[i64 0,i64 s.cF]=dM [0,s.cF]:=rfl;have sV:(fL u g).length+2=(fL u g++[0,s.cF]).length:=by simp
   have EV:(qg (fL u g++[0,s.cF])).length=(fL u g++[0,s.cF]).length:=(DD _).length_eq;by_cases hn:fL u g=[]
   .rw[hn]at hm hd hs hf EV ⊢
    simp only[vr]at hm hd hs EV ⊢;have e1:lP 20026 0 (.tuple [own [],i64 0])=some (.tuple [.er 1,i64 0],none):=rfl;have h2:2=(qg [0,s.cF]).length:=by rw[EV];rfl
    simp (disch:=omega) [PD,WU,he,hf,e1,hz,OQ (zs:=[0,s.cF]) (n:=2) rfl (by omega),KM,OQ h2 (by omega),hm]
    refine ahV (u:=u) (s:=s) (L:=dedup (qg [0,s.cF])) (by omega) λz=>?_
    simp (disch:=omega)
   .have e1:=apW (id:=20026) (t:=0) (e:=0) hn
    rw[<-sV]at EV;simp (disch:=omega) [PD,WU,he,hf,e1,ha,OQ sV (by omega),KM,OQ EV.symm (by omega),hm]
    refine ahV (u:=u) (s:=s) (L:=dedup (qg (fL u g++[0,s.cF]))) (by omega) λz=>?_
    simp (disch:=omega)
  .rw[ax he]
   have hf:qx u g=[]:=by simp[qx,he]
   have e1:lP 20026 0 (.tuple [own [],i64 (iK u g)])=some (.tuple [.er 1,i64 (iK u g)],none):=rfl;simp (disch:=omega) [PD,WU,he,hf,e1])
def Fu(us:List Un)(ss:List Us):Prop:=∀i,i<us.length->fH (nth us i) (nth ss i)
noncomputable instance {us:List Un} {ss:List Us}:Decidable (Fu us ss):=Classical.propDecidable _
def Fv(us:List Un)(g:Int):Prop:=∀i,i<us.length->iK (nth us i) g=0
noncomputable instance {us:List Un} {g:Int}:Decidable (Fv us g):=Classical.propDecidable _
noncomputable def tX(us:List Un)(ss:List Us)(g release:Int):Int :=
 if 6<us.length then 10 else if us.length≠ss.length then 3 else if ¬Fu us ss then 3
 else if g<1\/1073741824<g\/release<0\/1073741824<release then 1 else if 200*g<release then 10 else if ¬Fv us g then 10 else 0
noncomputable abbrev LK(g:Int)(u:Un)(s:Us):List V:=[.slice none 3 ((tV u s g).map (PX u s))]
variable{β γ:Type}
def BX[Inhabited α][Inhabited β]{f:α->β->γ}{a:List α}{b:List β}{i:Nat}(h1:i<a.length)(h2:i<b.length) :
  List.zipWith f (a.take (i+1)) (b.take (i+1))=List.zipWith f (a.take i) (b.take i)++[f (nth a i) (nth b i)]:=by
 rw[jV h1,jV h2,List.zipWith_append (by simp;omega)]
 rfl
def aw9(us:List Un)(ss:List Us)(g release:Int)(G:List aM):aX F 241 [ma us,lF ss,i64 g,i64 release] G =
  some (.tuple [.slice (some 0) 1 (if tX us ss g release=0 then List.zipWith (LK g) us ss else []),i64 (tX us ss g release)],G) :=
 bD rfl rfl (by
  generalize hE:tX us ss g release=E;generalize hW:V.tuple [.slice (some 0) 1 (if E=0 then List.zipWith (LK g) us ss else []),i64 E]=W
  unfold tX at hE;simp +contextual (disch:=omega) [-getElem?_pos,ag5];refine bO (λh1=>?_) (λh1=>jb (λh2=>?_) (λh2=>?_))
  .rw[aJ']at hE
   subst hE;exact hW
  .simp[-List.length_eq_zero_iff,-Int.natCast_eq_zero]at h2
   rw[ax',aJ']at hE
   subst hE;exact hW
  .simp[-List.length_eq_zero_iff,-Int.natCast_eq_zero]at h2
   have hl:us.length=ss.length:=by omega
   rw[ax',ax']at hE
   refine go_loop (λi:Nat=>avX (ma us) (lF ss) g release (ma us) us.length i G) (λi=>i<=us.length/\∀j,j<i->fH (nth us j) (nth ss j)) (λi=>us.length-i) 0 rfl (by simp) ⟨by omega,by omega⟩ ?_
   rintro i ⟨hi,hv⟩;simp +contextual (disch:=omega) [-getElem?_pos,ag3];refine bO (λh3=>?_) (λh3=>?_)
   .have h3:i<us.length:=by omega
    by_cases h4:fH (nth us i) (nth ss i)
    .simp +contextual (disch:=omega) [-getElem?_pos,bc (l:=us),bc (l:=ss),DL,h4]
     refine bB' (i+1) ⟨by omega,λj hj=>?_⟩
     rcases cS j i with h5|h5
     .exact hv j h5
     .rwa [show j=i by omega]
    .rw[aJ (λh=>h4 (h i h3))]at hE
     subst hE;simp +contextual (disch:=omega) [-getElem?_pos,bc (l:=us),bc (l:=ss),DL,h4];exact hW
   .obtain rfl:i=us.length:=by omega
    rw[ax (λh=>h hv)]at hE;by_cases h5:g<1\/1073741824<g
    .rw[aJ']at hE
     subst hE;have h6:(decide (g<1) || decide (1073741824<g))=true:=by simpa using h5
     simp +contextual (disch:=omega) [-getElem?_pos,dZ,h6];exact hW
    .have h6:(decide (g<1) || decide (1073741824<g))=false:=by simpa using h5
     by_cases h7:release<0\/1073741824<release
     .rw[aJ']at hE
      subst hE;have h8:(!decide (0<=release) || !decide (release<=1073741824))=true:=by simp;omega
      simp +contextual (disch:=omega) [-getElem?_pos,dZ,h6,h8];exact hW
     .rw[ax']at hE
      have h8:(!decide (0<=release) || !decide (release<=1073741824))=false:=by simp;omega
      simp +contextual (disch:=omega) [-getElem?_pos,dZ,h6,h8];refine bO (λh9=>?_) (λh9=>?_)
      .rw[aJ h9]at hE
       subst hE;exact hW
      .rw[ax h9]at hE
       refine go_loop (λi:Nat=>avZ (lF ss) g (.slice (some 1079) 1 (List.zipWith (LK g) (us.take i) (ss.take i))) (ma us) us.length i i G)
        (λi=>i<=us.length/\∀j,j<i->iK (nth us j) g=0) (λi=>us.length-i) 0 rfl (by simp) ⟨by omega,by omega⟩ ?_
       rintro i ⟨hi,hf⟩;simp +contextual (disch:=omega) [-getElem?_pos,ag4];refine bO (λh3=>?_) (λh3=>?_)
       .have h3:i<us.length:=by omega
        have il:i<ss.length:=by omega
        have hC:=aw8 (hv i h3) (g:=g) (by omega) []
        by_cases h4:iK (nth us i) g=0
        .rw[aJ h4]at hC
         simp +contextual (disch:=omega) [-getElem?_pos,bc (l:=us),bc (l:=ss),hC];refine bB (i+1) ?_ ⟨by omega,λj hj=>?_⟩ (by omega)
         .rw[BX h3 il];simp
         rcases cS j i with h5|h5
         .exact hf j h5
         .rwa [show j=i by omega]
        .rw[ax h4]at hC
         rw[aJ (λh=>h4 (h i h3))]at hE;subst hE;simp +contextual (disch:=omega) [-getElem?_pos,bc (l:=us),bc (l:=ss),hC];exact hW
       .obtain rfl:i=us.length:=by omega
        rw[ax (λh=>h hf)]at hE;subst hE;rw[mL,kD (by omega)]
        simp[<-hW,hl])
structure Ch where
 cF:Int
 kO:Int
 kP:Int
 deriving Inhabited
abbrev Ch.row(c:Ch):List V:=[i64 c.cF,i64 c.kO,i64 c.kP]
abbrev W2(l:List Ch):List V:=[.slice none 3 (l.map Ch.row)]
abbrev Part:=Option (Int×Int×Int)
def kA:Part->List V
 |none=>[.bool false,i64 0,i64 0,i64 0]
 |some (p,s,f)=>[.bool true,i64 p,i64 s,i64 f]
@[simp] theorem aHN{p:Part}{d:Nat}:((kA p).all λv => !v.cQ d)=true:=by
 cases p with
 |none=>rfl
 |some q=>rfl
abbrev oH(p:Part):V:=.agg (kA p)
def du(rest:Int->Part)(left:Int)(c:Ch)(out:Part):Part:=match rest (left-c.cF) with
 |none=>out
 |some (p,s,_)=>match out with
  |none=>some (p+c.kO,s+c.kP,c.cF)
  |some (q,t,f)=>if lG (p+c.kO,s+c.kP) (q,t) [] [] then some (p+c.kO,s+c.kP,c.cF) else some (q,t,f)
def tm(rest:Int->Part)(left:Int):List Ch->Part->Part
 |[],out=>out
 |c::cs,out=>if left<c.cF then out else tm rest left cs (du rest left c out)
def kQ:List (List Ch)->Int->Part
 |[],_=>some (0,0,0)
 |l::ls,left=>tm (kQ ls) left l none
def pj:List (List Ch)->Int->Option (List Int)
 |[],_=>some []
 |l::ls,left=>match kQ (l::ls) left with
  |none=>none
  |some (_,_,f)=>(pj ls (left-f)).map (f :: ·)
abbrev DR:=List ((Int×Int)×Part)
def uX(m:DR):List (V×V):=m.map λe=>(.agg [i64 e.1.1,i64 e.1.2],oH e.2)
def AM(LL:List (List Ch))(m:DR):Prop:=∀e∈m,∃i:Nat,e.1.1=i/\e.2=kQ (LL.drop i) e.1.2
def gl(n:Nat)(LL:List (List Ch))(m:DR):List aM:=[.cells [.slice none 1 (LL.map W2)],.map (uX m),.cells [.map 1],.cells [.fn n [.bu 0 0,.bu 2 0,.bu 3 0]]]
def W3{LL:List (List Ch)}{i:Nat}{left:Int}:∀{m:DR} {k:Nat},AM LL m ->
  oX true [0,0] (.agg [i64 i,i64 left]) (uX m) k=some none\/∃j,oX true [0,0] (.agg [i64 i,i64 left]) (uX m) k=some (some (k+j,oH (kQ (LL.drop i) left)))/\j<m.length
 |[],k,_=>.inl rfl
 |e::m,k,h=>by
  obtain⟨⟨a,b⟩,p⟩:=e;obtain⟨i',h1,h2⟩:=h ((a,b),p) (by simp)
  simp only at h1 h2;have h3:∀x∈m,∃i:Nat,x.1.1=i/\x.2=kQ (LL.drop i) x.1.2:=λx hx=>h x (by simp[hx])
  have step:oX true [0,0] (.agg [i64 i,i64 left]) (uX (((a,b),p)::m)) k=if (i:Int)=a/\left=b then some (some (k,oH p)) else oX true [0,0] (.agg [i64 i,i64 left]) (uX m) (k+1):=by
   show(match V.oW true [0,0] (.agg [i64 i,i64 left]) (.agg [i64 a,i64 b]) with|some true=>some (some (k,oH p))|some false=>oX true [0,0] (.agg [i64 i,i64 left]) (uX m) (k+1)|none=>none)=_
   have:V.oW true [0,0] (.agg [i64 i,i64 left]) (.agg [i64 a,i64 b])=some (decide ((i:Int)=a/\left=b)):=by
    simp[V.oW,eD,kc]<;>(by_cases q1:(i:Int)=a<;>by_cases q2:left=b<;>simp[q1,q2])
   rw[this];by_cases q:(i:Int)=a/\left=b
   .simp[q]
   .rw[decide_eq_false q,ax q]
  rw[step];split
  next q=>
   refine .inr ⟨0,?_,by simp⟩
   have:i=i':=by omega
   subst this;rw[h2,<- q.2];rfl
  .rcases W3 (k:=k+1) h3 with h4 | ⟨j,h4,h5⟩
   .exact .inl h4
   .exact .inr ⟨j+1,by rw[h4];simp;omega,by simp;omega⟩
structure Lb(LL:List (List Ch)):Prop where
 l8:LL.length<=6
 each:∀i,i<LL.length->(nth LL i).length<=1000
 cF:∀i j,i<LL.length->j<(nth LL i).length->0<=(nth (nth LL i) j).cF/\(nth (nth LL i) j).cF<=1073741824
 kO:∀i j,i<LL.length->j<(nth LL i).length->0<=(nth (nth LL i) j).kO/\(nth (nth LL i) j).kO<=1073741824
 kP:∀i j,i<LL.length->j<(nth LL i).length->0<=(nth (nth LL i) j).kP/\(nth (nth LL i) j).kP<=1
def pb(k:Int):Part->Prop
 |none=>True
 |some (p,s,f)=>(0<=p/\p<=1073741824*k)/\(0<=s/\s<=k)/\0<=f
def ahW{rest:Int->Part}{left k:Int}(hr:∀x,pb k (rest x)):∀{l:List Ch} {out:Part},pb (k+1) out ->
  (∀c∈l,0<=c.cF/\(0<=c.kO/\c.kO<=1073741824)/\0<=c.kP/\c.kP<=1)->pb (k+1) (tm rest left l out)
 |[],out,h,_=>h
 |c::cs,out,h,hc=>by
  unfold tm;split
  .exact h
  .refine ahW hr ?_ λc hm=>hc c (by simp[hm])
   have h1:=hr (left-c.cF);obtain⟨c1,c2,c3⟩:=hc c (by simp)
   have ok:∀p s f,pb k (some (p,s,f))->pb (k+1) (some (p+c.kO,s+c.kP,c.cF)):=λp s f q=>by
    simp only[pb]at q ⊢;omega
   unfold du;split
   .exact h
   next p s f e=>
    rw[e]at h1;split
    .exact ok _ _ _ h1
    .split
     .exact ok _ _ _ h1
     .exact h
def Ig[Inhabited α]{l:List α}{a:α}(h:a∈l):∃i,i<l.length/\nth l i=a:=by
 obtain⟨i,hi,rfl⟩:=List.getElem_of_mem h;exact⟨i,hi,by simp[nth,hi]⟩
def ahX:∀{LL:List (List Ch)} {left:Int},(∀l∈LL,∀c∈l,0<=c.cF/\(0<=c.kO/\c.kO<=1073741824)/\0<=c.kP/\c.kP<=1)->pb LL.length (kQ LL left)
 |[],left,_=>by simp[kQ,pb]
 |l::ls,left,h=>by
  have:=ahW (left:=left) (k:=ls.length) (l:=l) (out:=none) (λx=>ahX (LL:=ls) (left:=x) λl hl=>h l (by simp[hl])) trivial (h l (by simp))
  simpa [kQ] using this
def Lb.all{LL:List (List Ch)}(h:Lb LL):∀l∈LL,∀c∈l,0<=c.cF/\(0<=c.kO/\c.kO<=1073741824)/\0<=c.kP/\c.kP<=1:=by
 intro l hl c hc;obtain⟨i,hi,rfl⟩:=Ig hl;obtain⟨j,hj,rfl⟩:=Ig hc;exact⟨(h.cF i j hi hj).1,h.kO i j hi hj,h.kP i j hi hj⟩
def Lb.pb{LL:List (List Ch)}(h:Lb LL)(i:Nat)(left:Int):pb (LL.length:Int) (kQ (LL.drop i) left):=by
 have h1:=ahX (LL:=LL.drop i) (left:=left) (λl hl=>h.all l (Nb hl));cases hb:kQ (LL.drop i) left with
 |none=>trivial
 |some q =>
  obtain⟨p,s,f⟩:=q;rw[hb]at h1;simp only[Go.Proofs.YtabckmbjnjnegaaGreatDoor.pb]at h1 ⊢;have:(LL.drop i).length<=LL.length:=by simp
  omega
def W4{LL:List (List Ch)}{i:Nat}(h:i<LL.length)(left:Int):kQ (LL.drop i) left=tm (kQ (LL.drop (i+1))) left (nth LL i) none:=by
 rw[uW h];rfl
def axa(a b:Int):V.oW true [0,0] (.agg [i64 a,i64 b]) (.agg [i64 a,i64 b])=some true:=by simp[V.oW,eD,kc]
def axb{LL:List (List Ch)}(hL:Lb LL):∀(k i:Nat) (left:Int) (m:DR),k=LL.length-i->i<=LL.length->0<=left->left<=1073741824->AM LL m ->
  ∃m',aX F 242 [i64 i,i64 left,.bu 0 0,.bu 2 0,.bu 3 0] (gl 242 LL m)=some (oH (kQ (LL.drop i) left),gl 242 LL m')/\AM LL m':=by
 intro k;induction k with
 |zero =>
  intro i left m hk hi h0 h1 hm;obtain rfl:i=LL.length:=by omega
  refine⟨m,bD rfl rfl ?_,hm⟩;rw[CH,kQ];simp (disch:=omega) [-getElem?_pos,Lx,gl];rfl
 |succ k ih =>
  intro i left m hk hi h0 h1 hm
  suffices h:∀Q:V->List aM->Prop,(∀m',AM LL m'->Q (oH (kQ (LL.drop i) left)) (gl 242 LL m'))->gz (aX F) 242 [i64 i,i64 left,.bu 0 0,.bu 2 0,.bu 3 0] (gl 242 LL m) Q by
   obtain⟨_,_,h,m',h1,rfl,rfl⟩:=h (λv G=>∃m',AM LL m'/\v=oH (kQ (LL.drop i) left)/\G=gl 242 LL m') λm' a=>⟨m',a,rfl,rfl⟩;exact⟨m',h,h1⟩
  intro Q hQ;refine gN rfl rfl ?_;have bJ:i<LL.length:=by omega
  have zF:¬(i:Int)=LL.length:=by omega
  have ql:=axa i left;have Ib:=hL.l8;rcases W3 (LL:=LL) (i:=i) (left:=left) (m:=m) (k:=0) hm with hf | ⟨j,hf,hj⟩
  .rw[W4 bJ left]at hQ
   generalize hW:tm (kQ (LL.drop (i+1))) left (nth LL i) none=W at hQ;have hn:=hL.each i bJ;simp (disch:=omega) [-getElem?_pos,Lx,gl,zF,ql,hf,bc (l:=LL)];have Aw:∀(out:Part) (m:DR),out=W->AM LL m->(oX true [0,0] (.agg [i64 i,i64 left]) (uX m) 0=some none/\∃m',AM LL m'/\uX m++[(.agg [i64 i,i64 left],oH out)]=uX m') \/
     ∃j v,oX true [0,0] (.agg [i64 i,i64 left]) (uX m) 0=some (some (j,v))/\∃m',AM LL m'/\(uX m).set j (.agg [i64 i,i64 left],oH out)=uX m':=by
    rintro out m rfl hm;rw[<-W4 bJ left]at hW;rcases W3 (LL:=LL) (i:=i) (left:=left) (m:=m) (k:=0) hm with h5 | ⟨j,h5,hj⟩
    .refine .inl ⟨h5,m++[(((i:Int),left),out)],λe he=>?_,by simp[uX]⟩
     rcases ka.1 he with h6|h6
     .exact hm e h6
     .obtain rfl:=qf.1 h6
      exact⟨i,rfl,hW.symm⟩
    .refine .inr ⟨_,_,h5,m.set (0+j) (((i:Int),left),out),λe he=>?_,by simp[uX,Na]⟩
     rcases List.mem_or_eq_of_mem_set he with h6|rfl
     .exact hm e h6
     .exact⟨i,rfl,hW.symm⟩
   refine go_loop (λx:Nat×Part×DR=>av2 i left (.bu 2 0) (.bu 3 0) (.slice none 3 ((nth LL i).map Ch.row)) (nth LL i).length x.1 [.bool false,i64 0,i64 0,i64 0] (kA x.2.1) (gl 242 LL x.2.2))
    (λx=>x.1<=(nth LL i).length/\tm (kQ (LL.drop (i+1))) left ((nth LL i).drop x.1) x.2.1=W/\AM LL x.2.2) (λx=>(nth LL i).length-x.1) (0,none,m) rfl (by simp[gl,kA]) ⟨by omega,by simpa using hW,hm⟩ ?_
   rintro⟨j,out,m⟩ ⟨hj,hq,hm⟩;simp only at hj hq hm;simp (disch:=omega) [-getElem?_pos,ag6,gl];refine bO (λh2=>?_) (λh2=>?_)
   .have h2:j<(nth LL i).length:=by omega
    have a1:=hL.cF i j bJ h2;have a2:=hL.kO i j bJ h2;have a3:=hL.kP i j bJ h2;rw[uW h2,tm]at hq;have gt:=bc h2;simp (disch:=omega) [-getElem?_pos,gt];refine bO (λh3=>?_) (λh3=>?_)
    .rw[aJ h3]at hq
     rcases Aw out m hq hm with⟨g1,m2,g2,g3⟩ | ⟨j2,v2,g1,m2,g2,g3⟩
     .have:=hQ m2 g2
      cases rh:W with
      |none =>
       rw[hq]at g3;rw[rh]at this g3;simp only[gl,<- g3,oH,kA]at this;simp (disch:=omega) [-getElem?_pos,hq,rh,kA,ql,g1];exact this
      |some q =>
       obtain⟨p,s,f⟩:=q;rw[hq]at g3;rw[rh]at this g3;simp only[gl,<- g3,oH,kA]at this;simp (disch:=omega) [-getElem?_pos,hq,rh,kA,ql,g1];exact this
     .have:=hQ m2 g2
      cases rh:W with
      |none =>
       rw[hq]at g3;rw[rh]at this g3;simp only[gl,<- g3,oH,kA]at this;simp (disch:=omega) [-getElem?_pos,hq,rh,kA,ql,g1];exact this
      |some q =>
       obtain⟨p,s,f⟩:=q;rw[hq]at g3;rw[rh]at this g3;simp only[gl,<- g3,oH,kA]at this;simp (disch:=omega) [-getElem?_pos,hq,rh,kA,ql,g1];exact this
    .obtain⟨m',hI,qu⟩:=ih (i+1) (left-(nth (nth LL i) j).cF) m (by omega) (by omega) (by omega) (by omega) hm
     have hp:=hL.pb (i+1) (left-(nth (nth LL i) j).cF);rw[ax h3]at hq;unfold du at hq;simp only[gl]at hI
     push_cast at hI
     cases hb:kQ (LL.drop (i+1)) (left-(nth (nth LL i) j).cF) with
     |none =>
      rw[hb]at hI hp hq;simp only[oH,kA]at hI;simp only at hq;simp (disch:=omega) [-getElem?_pos,hI];exact bB (j+1,out,m') (by simp[gl]) ⟨by omega,hq,qu⟩ (by simp;omega)
     |some q =>
      obtain⟨p,s,f⟩:=q;rw[hb]at hI hp hq;simp only[oH,kA]at hI;simp only at hq;simp only[pb]at hp;have hB:=λa b=>aw6 a b [] [] (by simp) []
      simp only[ints,Gp]at hB;cases out with
      |none =>
       simp only at hq;simp (disch:=omega) [-getElem?_pos,hI,kA];exact bB (j+1,some (p+(nth (nth LL i) j).kO,s+(nth (nth LL i) j).kP,(nth (nth LL i) j).cF),m') (by simp[gl,kA]) ⟨by omega,hq,qu⟩ (by simp;omega)
      |some o =>
       obtain⟨p',s',f'⟩:=o;simp only at hq;by_cases BY:lG (p+(nth (nth LL i) j).kO,s+(nth (nth LL i) j).kP) (p',s') [] []
       .rw[aJ BY]at hq
        have hB:=hB (p+(nth (nth LL i) j).kO,s+(nth (nth LL i) j).kP) (p',s');simp (disch:=omega) [-getElem?_pos,hI,kA,hB,BY];exact bB (j+1,some (p+(nth (nth LL i) j).kO,s+(nth (nth LL i) j).kP,(nth (nth LL i) j).cF),m') (by simp[gl,kA]) ⟨by omega,hq,qu⟩ (by simp;omega)
       .rw[ax BY]at hq
        have hB:=hB (p+(nth (nth LL i) j).kO,s+(nth (nth LL i) j).kP) (p',s');simp (disch:=omega) [-getElem?_pos,hI,kA,hB,BY];exact bB (j+1,some (p',s',f'),m') (by simp[gl,kA]) ⟨by omega,hq,qu⟩ (by simp;omega)
   .obtain rfl:j=(nth LL i).length:=by omega
    rw[CH,tm]at hq;rcases Aw out m hq hm with⟨g1,m2,g2,g3⟩ | ⟨j2,v2,g1,m2,g2,g3⟩
    .have:=hQ m2 g2
     cases rh:W with
     |none =>
      rw[hq]at g3;rw[rh]at this g3;simp only[gl,<- g3,oH,kA]at this;simp (disch:=omega) [-getElem?_pos,hq,rh,kA,ql,g1];exact this
     |some q =>
      obtain⟨p,s,f⟩:=q;rw[hq]at g3;rw[rh]at this g3;simp only[gl,<- g3,oH,kA]at this;simp (disch:=omega) [-getElem?_pos,hq,rh,kA,ql,g1];exact this
    .have:=hQ m2 g2
     cases rh:W with
     |none =>
      rw[hq]at g3;rw[rh]at this g3;simp only[gl,<- g3,oH,kA]at this;simp (disch:=omega) [-getElem?_pos,hq,rh,kA,ql,g1];exact this
     |some q =>
      obtain⟨p,s,f⟩:=q;rw[hq]at g3;rw[rh]at this g3;simp only[gl,<- g3,oH,kA]at this;simp (disch:=omega) [-getElem?_pos,hq,rh,kA,ql,g1];exact this
  .cases hb:kQ (LL.drop i) left with
   |none =>
    rw[hb]at hf hQ;simp only[oH,kA]at hf;simp (disch:=omega) [-getElem?_pos,Lx,gl,zF,ql,hf];exact hQ m hm
   |some q =>
    obtain⟨p,s,f⟩:=q;rw[hb]at hf hQ;simp only[oH,kA]at hf;simp (disch:=omega) [-getElem?_pos,Lx,gl,zF,ql,hf];exact hQ m hm
noncomputable def LN(g:Int)(u:Un)(s:Us):List Ch:=(tV u s g).map λq=>⟨q,pow u q,jN s q⟩
noncomputable def kB(us:List Un)(ss:List Us)(g:Int):List (List Ch):=List.zipWith (LN g) us ss
def axc(us:List Un)(ss:List Us)(g:Int):List.zipWith (LK g) us ss=(kB us ss g).map W2:=by
 rw[kB,List.map_zipWith];congr 1;funext u s;simp[LN,LK,W2]
def W5(h:iK u g=0):(fL u g).length<=200:=by
 unfold iK at h;split at h
 .contradiction
 .split at h
  .cases h
  .split at h
   .cases h
   .omega
def axd(h:iK u g=0):(tV u s g).length<=202:=by
 have h1:=W5 h;have h2:=HI (qg (fL u g++[0,s.cF]));have h3:=(DD (fL u g++[0,s.cF])).length_eq;have h4:(tV u s g).length<=(dedup (qg (fL u g++[0,s.cF]))).length:=ui _ _;simp at h3;omega
structure PY(us:List Un)(ss:List Us)(g:Int):Prop where
 l8:us.length<=6
 len:us.length=ss.length
 valid:Fu us ss
 aHO:1<=g/\g<=1073741824
 ahY:Fv us g
variable{ss:List Us}
def W6{us:List Un}{release:Int}(h:tX us ss g release=0):PY us ss g/\(0<=release/\release<=1073741824)/\release<=200*g:=by
 unfold tX at h;split at h
 .cases h
 .split at h
  .cases h
  .split at h
   .cases h
   .split at h
    .cases h
    .split at h
     .cases h
     .split at h
      .cases h
      next h1 h2 h3 h4 h5 h6=>
       exact⟨⟨by omega,jf h2,jf h3,by omega,jf h6⟩,by omega,by omega⟩
def W7{us:List Un}(h:us.length=ss.length):(kB us ss g).length=us.length:=by simp[kB,h]
def AN[Inhabited α][Inhabited β]{f:α->β}{l:List α}{i:Nat}(h:i<l.length):nth (l.map f) i=f (nth l i):=by
 simp[nth,h]
def Ih[Inhabited α][Inhabited β][Inhabited γ]{f:α->β->γ}{a:List α}{b:List β}{i:Nat}(h1:i<a.length)(h2:i<b.length):nth (List.zipWith f a b) i=f (nth a i) (nth b i):=by
 simp[nth,List.getElem?_zipWith,h1,h2]
def tY[Inhabited α]{l:List α}{i:Nat}(h:i<l.length):nth l i∈l:=gw (bc h)
def ahZ{us:List Un}(h:PY us ss g):Lb (kB us ss g):=by
 have hl:=h.len;have e:∀i,i<(kB us ss g).length->nth (kB us ss g) i=LN g (nth us i) (nth ss i):=λi hi=>by
  rw[W7 hl]at hi;exact Ih hi (by omega)
 have c:∀i j,i<(kB us ss g).length->j<(nth (kB us ss g) i).length->∃q,lp (nth us i) (nth ss i) q/\nth (nth (kB us ss g) i) j=⟨q,pow (nth us i) q,jN (nth ss i) q⟩:=λi j hi hj=>by
  rw[e i hi]at hj ⊢;have xO:j<(tV (nth us i) (nth ss i) g).length:=by simpa [LN] using hj
  refine⟨nth (tV (nth us i) (nth ss i) g) j,?_,AN xO⟩;have:=tY xO;simp only[tV,vq,jD]at this;exact this.2
 refine⟨by rw[W7 hl];exact h.l8,λi hi=>?_,λi j hi hj=>?_,λi j hi hj=>?_,λi j hi hj=>?_⟩
 .rw[e i hi]
  rw[W7 hl]at hi;have:=axd (s:=nth ss i) (h.ahY i hi);simp[LN];omega
 .obtain⟨q,h1,h2⟩:=c i j hi hj
  rw[h2];exact PU h1
 .obtain⟨q,h1,h2⟩:=c i j hi hj
  rw[h2];exact PV
 .obtain⟨q,h1,h2⟩:=c i j hi hj
  rw[h2];exact W0
noncomputable def mc(us:List Un)(ss:List Us)(g release:Int):Int:=if tX us ss g release≠0 then tX us ss g release else if pj (kB us ss g) release=none then 9 else 0
noncomputable def jo(us:List Un)(ss:List Us)(g release:Int):List Int:=if tX us ss g release≠0 then [] else (pj (kB us ss g) release).getD []
def ah0{LL:List (List Ch)}:∀{l:List Ch} {rest:Int->Part} {left:Int} {out:Part} {p s f:Int},(∀q t e,out=some (q,t,e)->e<=left)->tm rest left l out=some (p,s,f)->f<=left
 |[],rest,left,out,p,s,f,h,he=>h _ _ _ (by simpa [tm] using he)
 |c::cs,rest,left,out,p,s,f,h,he=>by
  unfold tm at he;split at he
  .exact h _ _ _ he
  .refine ah0 (LL:=LL) (λq t e hq=>?_) he
   unfold du at hq;split at hq
   .exact h _ _ _ hq
   .split at hq
    .cases hq;omega
    .split at hq
     .cases hq;omega
     .cases hq;exact h _ _ _ rfl
def axe(us:List Un)(ss:List Us)(g release:Int):∃G',aX F 229 [ma us,lF ss,i64 g,i64 release] []=some (.tuple [own (jo us ss g release),i64 (mc us ss g release)],G'):=by
 suffices h:∀Q:V->List aM->Prop,(∀G,Q (.tuple [own (jo us ss g release),i64 (mc us ss g release)]) G)->gz (aX F) 229 [ma us,lF ss,i64 g,i64 release] [] Q by
  obtain⟨_,_,h,rfl⟩:=h (λv _=>v=.tuple [own (jo us ss g release),i64 (mc us ss g release)]) λ_=>rfl;exact⟨_,h⟩
 intro Q hQ;refine gN rfl rfl ?_;have hS:=aw9 us ss g release [];by_cases h0:tX us ss g release=0
 .rw[h0,aJ rfl,axc]at hS
  obtain⟨h1,h2,h3⟩:=W6 h0;have hL:=ahZ h1;have eL:jo us ss g release=(pj (kB us ss g) release).getD []:=by simp[jo,h0]
  have eE:mc us ss g release=if pj (kB us ss g) release=none then 9 else 0:=by simp[mc,h0]
  rw[eL,eE]at hQ;have Ib:=hL.l8;generalize PZ:kB us ss g=LL at *;simp (disch:=omega) [Wo,hS];refine go_loop (λx:List Int×Int×DR=>avO (.bu 0 0) (.bu 3 0) (.slice (some 1048) 1 (x.1.map λn=>[i64 n])) x.2.1 x.1.length (gl 242 LL x.2.2))
   (λx=>x.1.length<=LL.length/\(0<=x.2.1/\x.2.1<=1073741824)/\(pj (LL.drop x.1.length) x.2.1).map (x.1 ++ ·)=pj LL release/\AM LL x.2.2) (λx=>LL.length-x.1.length) ([],release,[]) rfl (by simp[gl,uX]) ⟨by simp,by simpa using h2,by simp,λe he=>by simp at he⟩ ?_
  rintro⟨fs,left,m⟩ ⟨i1,i2,i3,i4⟩;simp only at i1 i2 i3 i4;simp (disch:=omega) [agU,gl];refine bO (λh4=>?_) (λh4=>?_)
  .have h4:fs.length<LL.length:=by omega
   obtain⟨m',hI,qu⟩:=axb hL (LL.length-fs.length) fs.length left m rfl i1 i2.1 i2.2 i4;have hp:=hL.pb fs.length left;have hd:LL.drop fs.length=nth LL fs.length::LL.drop (fs.length+1):=uW h4;rw[hd,pj,<- hd]at i3;cases hb:kQ (LL.drop fs.length) left with
   |none =>
    rw[hb]at hI i3;simp only[oH,kA,gl]at hI;simp only[Nn]at i3;rw[<-i3]at hQ;simp only[if_true,R7]at hQ;simp (disch:=omega) [hI];exact hQ _
   |some q =>
    obtain⟨p,s,f⟩:=q;rw[hb]at hI i3 hp;have hf:f<=left:=by
     rw[W4 h4]at hb;exact ah0 (LL:=LL) (λq t e hq=>by cases hq) hb
    simp only[oH,kA,gl]at hI;simp only[pb]at hp;simp only at i3;simp (disch:=omega) [hI];refine bB (fs++[f],left-f,m') (by simp[gl]) ⟨by simp;omega,by simp;omega,?_,qu⟩ (by simp;omega)
    rw[<-i3];simp[Function.comp_def]
  .have e:fs.length=LL.length:=by omega
   rw[e,CH,pj]at i3;simp only[ox,vl]at i3;rw[<-i3]at hQ;simpa using hQ _
 .rw[ax h0]at hS
  have eL:jo us ss g release=[]:=by simp[jo,h0]
  have eE:mc us ss g release=tX us ss g release:=by simp[mc,h0]
  rw[eL,eE]at hQ;simp (disch:=omega) [Wo,hS,h0];exact hQ _
end
def zH(a b:Int×Int):Prop:=b.1<a.1\/(a.1=b.1/\a.2<b.2)
variable{a b:Int×Int}{p q:List Int}
def BZ:lG a b p q<->zH a b\/(a.1=b.1/\a.2=b.2/\iE p q<0):=by
 unfold lG zH;split
 .omega
 .split<;>omega
def axf{a:Int}:iE (a::p) (a::q)=iE p q:=by simp[iE]
def axg{a b:Int}(h:b<a):¬iE (a::p) (b::q)<0:=by
 simp only[iE];rw[ax',aJ h]
 omega
def yd:List (List Ch)->List Ch->Prop
 |[],[]=>True
 |l::ls,c::P=>c∈l/\yd ls P
 |_,_=>False
def sF(P:List Ch):Int:=(P.map Ch.cF).sum
def sP(P:List Ch):Int:=(P.map Ch.kO).sum
def sS(P:List Ch):Int:=(P.map Ch.kP).sum
def axh{LL:List (List Ch)}:∀{P:List Ch},(∀l∈LL,∀c∈l,0<=c.cF)->yd LL P->0<=sF P:=by
 induction LL with
 |nil=>intro P _ hp;cases P with
  |nil=>simp[sF]
  |cons c P=>exact hp.elim
 |cons l ls ih =>
  intro P h hp;cases P with
  |nil=>exact hp.elim
  |cons c P =>
   have h1:=ih (λl hl=>h l (by simp[hl])) hp.2
   have h2:=h l (by simp) c hp.1
   simp only[sF,nT,R3]at h1 ⊢;omega
structure Top(LL:List (List Ch))(left:Int)(P:List Ch):Prop where
 Fw:yd LL P
 sum:sF P<=left
 best:∀Q,yd LL Q->sF Q<=left->¬lG (sP Q,sS Q) (sP P,sS P) (Q.map Ch.cF) (P.map Ch.cF)
structure Jn(ls:List (List Ch))(left:Int)(pre:List Ch)(p s f:Int)(c:Ch)(P:List Ch):Prop where
 mem:c∈pre
 cF:c.cF=f
 Fw:yd ls P
 sum:c.cF+sF P<=left
 kO:c.kO+sP P=p
 kP:c.kP+sS P=s
 rest:pj ls (left-f)=some (P.map Ch.cF)
 best:∀d∈pre,∀Q,yd ls Q->d.cF+sF Q<=left->¬lG (d.kO+sP Q,d.kP+sS Q) (p,s) (d.cF::Q.map Ch.cF) (c.cF::P.map Ch.cF)
def J(ls:List (List Ch))(left:Int)(pre:List Ch):Part->Prop
 |none=>∀c∈pre,∀Q,yd ls Q->left<c.cF+sF Q
 |some (p,s,f)=>∃c P,Jn ls left pre p s f c P
variable{ls:List (List Ch)}{left:Int}{pre:List Ch}
def ah1{out:Part}{l:List Ch}(h:J ls left pre out)(hn:∀c∈l,∀Q,yd ls Q->left<c.cF+sF Q):J ls left (pre++l) out:=by
 cases out with
 |none =>
  intro c hc Q hQ;rcases ka.1 hc with h1|h1
  .exact h c h1 Q hQ
  .exact hn c h1 Q hQ
 |some q =>
  obtain⟨p,s,f⟩:=q;obtain⟨c,P,j⟩:=h;refine⟨c,P,⟨by simp[j.mem],j.cF,j.Fw,j.sum,j.kO,j.kP,j.rest,λd hd Q hQ hs=>?_⟩⟩
  rcases ka.1 hd with h1|h1
  .exact j.best d h1 Q hQ hs
  .have:=hn d h1 Q hQ
   omega
def Good(ls:List (List Ch)):Prop:=∀left,0<=left->match kQ ls left with
 |none=>∀Q,yd ls Q->left<sF Q
 |some (p,s,_)=>∃P,Top ls left P/\sP P=p/\sS P=s/\pj ls left=some (P.map Ch.cF)
def axk(hg:Good ls){out:Part}{c:Ch}(h:J ls left pre out)(P2:∀d∈pre,d.cF<c.cF)(hle:c.cF<=left):J ls left (pre++[c]) (du (kQ ls) left c out):=by
 have hg:=hg (left-c.cF) (by omega)
 unfold du;cases hb:kQ ls (left-c.cF) with
 |none =>
  rw[hb]at hg;exact ah1 h λd hd Q hQ=>by
   obtain rfl:=qf.1 hd;have:=hg Q hQ;omega
 |some q =>
  obtain⟨p0,s0,f0⟩:=q;rw[hb]at hg;obtain⟨P0,t,rfl,rfl,e0⟩:=hg;have new:∀d∈[c],∀Q,yd ls Q->d.cF+sF Q<=left->¬lG (d.kO+sP Q,d.kP+sS Q) (sP P0+c.kO,sS P0+c.kP) (d.cF::Q.map Ch.cF) (c.cF::P0.map Ch.cF):=by
   intro d hd Q hQ hs zJ;obtain rfl:=qf.1 hd;refine t.best Q hQ (by omega) ?_
   rw[BZ]at zJ ⊢;rw[axf]at zJ;unfold zH at zJ ⊢;simp only at zJ ⊢;omega
  have ts:=t.sum;cases out with
  |none =>
   simp only;refine⟨c,P0,⟨by simp,rfl,t.Fw,by omega,by omega,by omega,e0,λd hd Q hQ hs=>?_⟩⟩
   rcases ka.1 hd with h1|h1
   .have:=h d h1 Q hQ;omega
   .exact new d h1 Q hQ hs
  |some o =>
   obtain⟨p,s,f⟩:=o;obtain⟨c1,P1,j⟩:=h;simp only;split
   next zJ=>
    rw[BZ]at zJ;have hv:zH (sP P0+c.kO,sS P0+c.kP) (p,s):=by
     rcases zJ with h|h
     .exact h
     .simp[iE]at h
    unfold zH at hv;simp only at hv;refine⟨c,P0,⟨by simp,rfl,t.Fw,by omega,by omega,by omega,e0,λd hd Q hQ hs=>?_⟩⟩
    rcases ka.1 hd with h1|h1
    .have:=j.best d h1 Q hQ hs
     rw[BZ]at this ⊢;unfold zH at this ⊢;simp only at this ⊢;omega
    .exact new d h1 Q hQ hs
   next zJ=>
    rw[BZ]at zJ;unfold zH at zJ;simp only at zJ;refine⟨c1,P1,⟨by simp[j.mem],j.cF,j.Fw,j.sum,j.kO,j.kP,j.rest,λd hd Q hQ hs=>?_⟩⟩
    rcases ka.1 hd with h1|h1
    .exact j.best d h1 Q hQ hs
    .have h2:=new d h1 Q hQ hs
     obtain rfl:=qf.1 h1;have h3:=axg (p:=Q.map Ch.cF) (q:=P1.map Ch.cF) (P2 c1 j.mem);rw[BZ]at h2 ⊢;unfold zH at h2 ⊢;simp only at h2 ⊢;omega
def ah2{ls:List (List Ch)}(hg:Good ls)(h0:∀l∈ls,∀c∈l,0<=c.cF){left:Int}:∀{cs pre:List Ch} {out:Part},(pre++cs).Pairwise (λa b=>a.cF<b.cF)->J ls left pre out->J ls left (pre++cs) (tm (kQ ls) left cs out)
 |[],pre,out,_,h=>by simpa [tm] using h
 |c::cs,pre,out,hp,h=>by
  have Bj:=z8.1 hp;unfold tm;split
  next bJ=>
   refine ah1 h λd hd Q hQ=>?_;have:=axh h0 hQ;rcases iA.1 hd with rfl|h1
   .omega
   .have:=(rU.1 Bj.2.1).1 d h1
    omega
  .have h1:=axk hg h (c:=c) (λd hd=>Bj.2.2 d hd c (by simp)) (by omega)
   have h2:=ah2 hg h0 (cs:=cs) (pre:=pre++[c]) (by simpa using hp) h1
   simpa using h2
def Asc(LL:List (List Ch)):Prop:=∀l∈LL,l.Pairwise λa b=>a.cF<b.cF
def ah4:∀{LL:List (List Ch)},(∀l∈LL,∀c∈l,0<=c.cF)->Asc LL->Good LL
 |[],_,_=>λleft h0=>by
  simp only[kQ];refine⟨[],⟨trivial,by simpa [sF] using h0,λQ hQ _=>?_⟩,rfl,rfl,rfl⟩
  cases Q with
  |nil=>simp[lG,iE]
  |cons c Q=>exact hQ.elim
 |l::ls,h0,ha=>λleft qQ=>by
  have hg:Good ls:=ah4 (λl hl=>h0 l (by simp[hl])) (λl hl=>ha l (by simp[hl]))
  have hj:=ah2 hg (λl hl=>h0 l (by simp[hl])) (left:=left) (cs:=l) (pre:=[]) (out:=none) (by simpa using ha l (by simp)) (λc hc=>by simp at hc)
  simp only[vr]at hj;have e:kQ (l::ls) left=tm (kQ ls) left l none:=rfl;rw[e];cases hb:tm (kQ ls) left l none with
  |none =>
   rw[hb]at hj;intro Q hQ;cases Q with
   |nil=>exact hQ.elim
   |cons c Q =>
    have:=hj c hQ.1 Q hQ.2;simpa [sF] using this
  |some q =>
   obtain⟨p,s,f⟩:=q;rw[hb]at hj;obtain⟨c,P,j⟩:=hj;have j4:=j.sum;have j5:=j.kO;have j6:=j.kP;refine⟨c::P,⟨⟨j.mem,j.Fw⟩,by simpa [sF] using j4,λQ hQ hs=>?_⟩,by simpa [sP] using j5,by simpa [sS] using j6,?_⟩
   .cases Q with
    |nil=>exact hQ.elim
    |cons d Q =>
     have:=j.best d hQ.1 Q hQ.2 (by simpa [sF] using hs)
     have e1:sP (c::P)=p:=by simpa [sP] using j5
     have e2:sS (c::P)=s:=by simpa [sS] using j6
     rw[e1,e2];simpa [sP,sS] using this
   .rw[pj,e,hb]
    simp only;rw[j.rest];simp[j.cF]
def W8{x:Int}:∀{l:List Int},x∈dedup l<->x∈l
 |[]=>Iff.rfl
 |[a]=>Iff.rfl
 |a::b::r=>by
  have ih:=W8 (x:=x) (l:=b::r);unfold dedup;by_cases h:a=b
  .simp only[h,beq_self_eq_true,bW,ih]
   simp
  .have h':(a==b)=false:=by simpa using h
   simp only[h',gL,iA,ih]
def ah7:∀{l:List Int},l.Pairwise (· <= ·)->(dedup l).Pairwise (· < ·)
 |[],_=>.nil
 |[a],_=>by simp[dedup]
 |a::b::r,h=>by
  obtain⟨h1,h2⟩:=rU.1 h;have ih:=ah7 h2;unfold dedup;by_cases tU:a=b
  .simp only[tU,beq_self_eq_true,bW]
   exact ih
  .have h':(a==b)=false:=by simpa using tU
   simp only[h',gL,rU];refine⟨λx hx=>?_,ih⟩;rw[W8]at hx;have h3:=h1 b (by simp)
   rcases iA.1 hx with rfl|h4
   .omega
   .have:=(rU.1 h2).1 x h4
    omega
variable{g:Int}
def Ii{u:Un}{s:Us}{q:Int}:q∈tV u s g<->(q∈fL u g\/q=0\/q=s.cF)/\lp u s q:=by
 simp only[tV,vq,W8,(DD _).mem_iff,jD,ka,iA,Gu,or_false]
def axm{u:Un}{s:Us}:(tV u s g).Pairwise (· < ·):=(ah7 (UC _)).filter _
def oI(g:Int):List Un->List Us->List Int->Prop
 |u::us,s::ss,q::F=>q∈tV u s g/\oI g us ss F
 |[],[],[]=>True
 |_,_,_=>False
noncomputable def jW:List Un->List Int->Int
 |u::us,q::F=>pow u q+jW us F
 |_,_=>0
def jX:List Us->List Int->Int
 |s::ss,q::F=>jN s q+jX ss F
 |_,_=>0
noncomputable def ye:List Un->List Us->List Int->List Ch
 |u::us,s::ss,q::F=>⟨q,pow u q,jN s q⟩::ye us ss F
 |_,_,_=>[]
def Fx{g:Int}:∀{us:List Un} {ss:List Us} {F:List Int},oI g us ss F->F.length=us.length/\F.length=ss.length
 |[],[],[],_=>⟨rfl,rfl⟩
 |_::_,_::_,_::_,h=>by have:=Fx h.2;simp;omega
 |[],_::_,_,h=>h.elim
 |[],[],_::_,h=>h.elim
 |_::_,[],_,h=>h.elim
 |_::_,_::_,[],h=>h.elim
def P3{g:Int}:∀{us:List Un} {ss:List Us} {F:List Int},oI g us ss F->yd (kB us ss g) (ye us ss F)/\(ye us ss F).map Ch.cF=F/\sF (ye us ss F)=F.sum/\sP (ye us ss F)=jW us F/\sS (ye us ss F)=jX ss F
 |[],[],[],_=>⟨trivial,rfl,rfl,rfl,rfl⟩
 |u::us,s::ss,q::F,h=>by
  obtain⟨h1,h2,h3,h4,h5⟩:=P3 h.2;refine⟨⟨nU.2 ⟨q,h.1,rfl⟩,h1⟩,by simp[ye,h2],?_,?_,?_⟩
  .simp only[sF]at h3 ⊢;simp[ye,h3]
  .simp only[sP]at h4 ⊢;simp[ye,jW,h4]
  .simp only[sS]at h5 ⊢;simp[ye,jX,h5]
 |[],_::_,_,h=>h.elim
 |[],[],_::_,h=>h.elim
 |_::_,[],_,h=>h.elim
 |_::_,_::_,[],h=>h.elim
def ah8{g:Int}:∀{us:List Un} {ss:List Us} {P:List Ch},us.length=ss.length->yd (kB us ss g) P->oI g us ss (P.map Ch.cF)/\P=ye us ss (P.map Ch.cF)
 |[],[],[],_,_=>⟨trivial,rfl⟩
 |[],[],_::_,_,h=>h.elim
 |[],_::_,_,h,_=>by simp at h
 |_::_,[],_,h,_=>by simp at h
 |_::_,_::_,[],_,h=>h.elim
 |u::us,s::ss,c::P,hl,h=>by
  obtain⟨h1,h2⟩:=ah8 (by simpa using hl) h.2
  obtain⟨q,hq,rfl⟩:=nU.1 h.1;exact⟨⟨hq,h1⟩,by simp[ye];exact h2⟩
structure Fy(g:Int)(us:List Un)(ss:List Us)(left:Int)(F:List Int):Prop where
 oI:oI g us ss F
 sum:F.sum<=left
 best:∀E,Go.Proofs.YtabckmbjnjnegaaGreatDoor.oI g us ss E->E.sum<=left->¬lG (jW us E,jX ss E) (jW us F,jX ss F) E F
def ah9{g:Int}:∀{us:List Un} {ss:List Us},Asc (kB us ss g)
 |[],_=>λl hl=>by simp[kB]at hl
 |_::_,[]=>λl hl=>by simp[kB]at hl
 |u::us,s::ss=>λl hl=>by
  rcases iA.1 hl with rfl|h
  .exact Zz.2 axm
  .exact ah9 (us:=us) (ss:=ss) l h
variable{ss:List Us}
def aia{us:List Un}(hs:PY us ss g)(h0:0<=left) :
  match pj (kB us ss g) left with
  |none=>∀F,oI g us ss F->left<F.sum
  |some F=>Fy g us ss left F:=by
 have hL:=ahZ hs;have hn:∀l∈kB us ss g,∀c∈l,0<=c.cF:=λl hl c hc=>(hL.all l hl c hc).1;have hg:=ah4 hn ah9;have yW:=hg left h0;cases hb:kQ (kB us ss g) left with
 |none =>
  rw[hb]at yW;have e:pj (kB us ss g) left=none:=by
   cases hl:kB us ss g with
   |nil=>rw[hl]at hb;simp[kQ]at hb
   |cons l ls=>rw[pj,<- hl,hb]
  rw[e];intro F hF;obtain⟨h1,_,h3,_⟩:=P3 hF;have:=yW _ h1;omega
 |some q =>
  obtain⟨p,s,f⟩:=q;rw[hb]at yW;obtain⟨P,t,_,_,e⟩:=yW;rw[e];obtain⟨h1,h2⟩:=ah8 hs.len t.Fw;obtain⟨_,_,h3,h4,h5⟩:=P3 h1;rw[<-h2]at h3 h4 h5;refine⟨h1,by have:=t.sum;omega,λE hE hs=>?_⟩
  obtain⟨e1,e2,e3,e4,e5⟩:=P3 hE;have:=t.best _ e1 (by omega)
  rwa [e2,e4,e5,h4,h5]at this
def aib:∀{p q:List Int},p.length=q.length->(iE p q<0\/iE q p<0\/p=q)
 |[],[],_=>.inr (.inr rfl)
 |[],_::_,h=>by simp at h
 |_::_,[],h=>by simp at h
 |a::p,b::q,h=>by
  have ih:=aib (p:=p) (q:=q) (by simpa using h)
  simp only[iE];rcases Jd a b with h1|h1|h1
  .left;simp[h1]
  .subst h1
   simp only[Jc,if_false];rcases ih with h2|h2|h2
   .exact .inl h2
   .exact .inr (.inl h2)
   .exact .inr (.inr (by rw[h2]))
  .right;left;simp[h1]
def axn(h:p.length=q.length):lG a b p q\/lG b a q p\/(a=b/\p=q):=by
 rw[BZ,BZ];unfold zH;obtain⟨a1,a2⟩:=a;obtain⟨b1,b2⟩:=b;rcases aib h with h1|h1|h1
 .simp only[Prod.mk.injEq];omega
 .simp only[Prod.mk.injEq];omega
 .simp only[Prod.mk.injEq,h1,and_true];omega
def Fy.unique{us:List Un}{F E:List Int}(h:Fy g us ss left F)(h':Fy g us ss left E):F=E:=by
 have l1:=Fx h.oI;have l2:=Fx h'.oI;rcases axn (a:=(jW us F,jX ss F)) (b:=(jW us E,jX ss E)) (p:=F) (q:=E) (by omega) with h1|h1|h1
 .exact absurd h1 (h'.best F h.oI h.sum)
 .exact absurd h1 (h.best E h'.oI h'.sum)
 .exact h1.2
def aic{g:Int}:∀{us:List Un} {ss:List Us} {F:List Int} {a b c:Int},oI g us ss F->BW us ss F (a,b,c)=some (a+F.sum,b+jW us F,c+jX ss F)
 |[],[],[],a,b,c,_=>by simp[BW,jW,jX]
 |u::us,s::ss,q::F,a,b,c,h=>by
  rw[BW,aJ (Ii.1 h.1).2,aic h.2];simp only[R3,jW,jX,Option.some.injEq,Prod.mk.injEq];omega
 |[],_::_,_,_,_,_,h=>h.elim
 |[],[],_::_,_,_,_,h=>h.elim
 |_::_,[],_,_,_,_,h=>h.elim
 |_::_,_::_,[],_,_,_,h=>h.elim
def aid{us:List Un}{F:List Int}(h:oI g us ss F):Ft us ss F=some (F.sum,jW us F,jX ss F):=by
 have l:=Fx h;rw[Ft,aJ',aic h]
 simp
section
attribute [local simp] mX mY lX mW
def aie:∀{p q:List Int},iE p q<0->¬iE q p<0
 |[],[],h=>by simp[iE]at h
 |[],_::_,_=>by simp[iE]
 |_::_,[],h=>by simp[iE]at h
 |a::p,b::q,h=>by
  have ih:=aie (p:=p) (q:=q);simp only[iE]at h ⊢;rcases Jd a b with h1|h1|h1
  .rw[ax',aJ h1];omega
  .subst h1
   simp only[Jc,if_false]at h ⊢;exact ih h
  .rw[ax',aJ h1]at h;omega
def aif:∀{p q r:List Int},iE p q<0->iE q r<0->iE p r<0
 |[],[],_,h,_=>by simp[iE]at h
 |_::_,[],_,h,_=>by simp[iE]at h
 |_,_::_,[],_,h=>by simp[iE]at h
 |[],_::_,_::_,_,_=>by simp[iE]
 |a::p,b::q,c::r,h,h'=>by
  have ih:=aif (p:=p) (q:=q) (r:=r);simp only[iE]at h h' ⊢;rcases Jd a b with h1|h1|h1
  .rcases Jd b c with h2|h2|h2
   .rw[aJ'];omega
   .rw[aJ'];omega
   .rw[ax',aJ h2]at h';omega
  .subst h1
   simp only[Jc,if_false]at h;rcases Jd a c with h2|h2|h2
   .rw[aJ h2];omega
   .subst h2
    simp only[Jc,if_false]at h' ⊢;exact ih h h'
   .rw[ax',aJ h2]at h';omega
  .rw[ax',aJ h1]at h;omega
variable{a b:Int×Int}{p q:List Int}
def axo(h:lG a b p q):¬lG b a q p:=by
 rw[BZ]at h ⊢;unfold zH at h ⊢;have:=aie (p:=p) (q:=q);rcases h with h | ⟨h1,h2,h3⟩
 .omega
 .have:=this h3;omega
def axp{c:Int×Int}{r:List Int}(h:lG a b p q)(h':lG b c q r):lG a c p r:=by
 rw[BZ]at h h' ⊢;unfold zH at h h' ⊢;have:=aif (p:=p) (q:=q) (r:=r);rcases h with h | ⟨h1,h2,h3⟩
 .omega
 .rcases h' with h' | ⟨h4,h5,h6⟩
  .omega
  .have:=this h3 h6
   omega
def aih:¬lG a a p p:=λh=>axo h h
end
