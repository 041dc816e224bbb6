/- - -/
import Derived.Test.YtabckmbjnjnegaaGreatDoorDj
import Derived.Test.YtabckmbjnjnegaaGreatDoorDg
import Derived.Test.YtabckmbjnjnegaaGreatDoorDh
import Derived.Test.YtabckmbjnjnegaaGreatDoorDi
attribute [local simp] Go.Vm.wrap64
namespace Go.Proofs.YtabckmbjnjnegaaGreatDoor
set_option linter.all false
set_option maxRecDepth 100000
set_option maxHeartbeats 400000
section
open Go.Vm
def YY:Option (List Int)->V
 |none=>.cj
 |some p=>.slice none 1 (p.map λn=>[i64 n])
def zY(W:List (Option (List Int))):List V:=W.map YY
variable{W:List (Option (List Int))}
@[simp] theorem aIW:(zY W).length=W.length:=by simp[zY]
@[simp] theorem aIX{i:Nat}{p:List Int}:(zY W).set i (.slice none 1 (p.map λn=>[i64 n]))=zY (W.set i (some p)):=by simp[zY,YY]
def aCz:∀{W:List (Option (List Int))} {cs:List V} {off:Nat},cs.drop off=zY W->chunks 1 cs off W.length=W.map λo=>[YY o]
 |[],cs,off,h=>by simp[chunks]
 |o::W,cs,off,h=>by
  have h2:cs.drop (off+1)=zY W:=by rw[<-List.drop_drop,h];simp[zY]
  rw[vp,chunks,aCz h2,h];simp[zY]
@[simp] theorem aIY{d:Nat}:((zY W).all λv => !V.cQ d v)=true:=by
 simp only[zY,List.all_map,iW,Function.comp];intro o _;cases o<;>rfl
end
section
open Go.Vm
attribute [local simp] mX mY lX mW
def aIZ(r:Rr):pY (F9 r) []=⟨0,[],List.replicate r.l.length []⟩:=rfl
def aI0{r:Rr}(hk:kT r=0)(hn:r.n<=6):fm (F9 r)=0:=by
 unfold fm;rw[ax (by omega:¬ (kT r≠0)),ax (by omega:¬ (12<r.n)),ax (by simp)]
 rfl
def aCA(x:Ps)(hr:x.re.length<=5000)(hl:x.lf.length<=1000)(hc:x.cm.length<=1000)(G:List aM):aX F 48 [ps x,ps x] G=some (.bool true,G) :=
 bD rfl rfl (by
  have e1:=ayW x.re hr;have e2:=akh x.lf x.lf (by omega)
  have e3:=akh x.cm x.cm (by omega)
  rw[fJ rfl]at e2 e3;simp[adP,e1,e2,e3])
def psL(x:Ps):Prop:=x.re.length<=5000/\x.lf.length<=1000/\x.cm.length<=1000
def alK(l:List Ps)(h:l.length<=1000000)(hp:∀i,i<l.length->psL (nth l i))(G:List aM):aX F 23 [.slice none 3 (l.map Ps.row),.slice none 3 (l.map Ps.row)] G=some (.bool true,G) :=
 bD rfl rfl (by
  simp (disch:=omega) [-getElem?_pos,adi];refine go_loop (λi:Nat=>aqS (.slice none 3 (l.map Ps.row)) (.slice none 3 (l.map Ps.row)) l.length i G) (λi=>i<=l.length) (λi=>l.length-i) 0 rfl (by simp) (by simp) ?_
  intro i hi;simp (disch:=omega) [-getElem?_pos,adh];refine bO (λh5=>?_) (λh5=>?_)
  .have h5:i<l.length:=by omega
   obtain⟨p1,p2,p3⟩:=hp i h5;have e:=aCA (nth l i) p1 p2 p3;simp (disch:=omega) [-getElem?_pos,bc (l:=l),e];exact bB' (i+1)
  .trivial)
def aCB{c:Cs}{f:Fl}{l:List Sp}(h:Ra c f l){k:Nat}(hk:k<l.length):psL (zP c f l k):=by
 have hp:=h.pa hk;have cv:=oh h.c0;have kv:=oj cv.k;have hv:=hp.vc (b8 _);have C9:=X8 cv (nth l k) (eO c f l k);have e1:(zP c f l k).re.length=c.s.length:=C9.1;have e2:(zP c f l k).lf.length=c.r.n.toNat:=hv.ll;have e3:(zP c f l k).cm.length=c.r.l.length:=C9.2;have:=cv.s;have:=cv.n;have:=kv.len;exact⟨by omega,by omega,by omega⟩
def aCC{c:Cs}{f:Fl}(hc:fm c=0)(h:e8 c f):flL f:=by
 have cv:=oh hc;have kv:=oj cv.k;have hs:=cv.s;have hl:=kv.len;have h1:=h.2.1;have h2:=h.2.2;have h3:=IE hc h1;refine⟨⟨by have:=h1.1;omega,λi hi=>?_⟩,by have:=h2.1;omega,λi hi=>?_⟩
 .have:=h3.2 i hi
  exact⟨by omega,by omega⟩
 .have:=(aAw h2 (i:=i) (by have:=h2.1;omega)).1
  omega
def aCD(a b:List Int)(ha:a.length<=17592186044416)(G:List aM):aX F 78 [ints a,ints b] G=some (.bool (decide (a=b)),G) :=
 bD rfl rfl (by
  generalize hW:decide (a=b)=W;by_cases h1:a.length=b.length
  case neg =>
   have fA:¬ (a.length:Int)=b.length:=by omega
   simp (disch:=omega) [-getElem?_pos,Vt,fA];rw[<-hW,decide_eq_false λh=>h1 (by rw[h])]
  have fA:(a.length:Int)=b.length:=by omega
  simp (disch:=omega) [-getElem?_pos,Vt,fA];refine go_loop (λi:Nat=>asD (ints a) (ints b) b.length i G) (λi=>i<=a.length/\∀j,j<i->nth a j=nth b j) (λi=>a.length-i) 0 rfl (by simp) (by simp) ?_
  rintro i ⟨hi,hj⟩;simp (disch:=omega) [-getElem?_pos,aen];refine bO (λh5=>?_) (λh5=>?_)
  .have h5:i<b.length:=by omega
   have h6:i<a.length:=by omega
   by_cases h7:nth a i=nth b i
   .simp (disch:=omega) [-getElem?_pos,dQ (l:=a),dQ (l:=b),h7]
    exact bB' (i+1) ⟨by omega,λj nz=>by
     by_cases g:j=i
     .rw[g];exact h7
     .exact hj j (by omega)⟩
   .simp (disch:=omega) [-getElem?_pos,dQ (l:=a),dQ (l:=b),h7]
    rw[<-hW,decide_eq_false λh=>h7 (by rw[h])]
  .rw[<-hW,fJ (Yp h1 λj nz=>hj j (by omega))])
def aCE(a b:List Gs)(ha:a.length<=8796093022208)(G:List aM):aX F 77 [lq a,lq b] G=some (.bool (decide (a=b)),G) :=
 bD rfl rfl (by
  generalize hW:decide (a=b)=W;by_cases h1:a.length=b.length
  case neg =>
   have fA:¬ (a.length:Int)=b.length:=by omega
   simp (disch:=omega) [-getElem?_pos,Vs,fA];rw[<-hW,decide_eq_false λh=>h1 (by rw[h])]
  have fA:(a.length:Int)=b.length:=by omega
  simp (disch:=omega) [-getElem?_pos,Vs,fA];refine go_loop (λi:Nat=>asB (lq a) (lq b) b.length i G) (λi=>i<=a.length/\∀j,j<i->nth a j=nth b j) (λi=>a.length-i) 0 rfl (by simp) (by simp) ?_
  rintro i ⟨hi,hj⟩;simp (disch:=omega) [-getElem?_pos,aem];refine bO (λh5=>?_) (λh5=>?_)
  .have h5:i<b.length:=by omega
   have h6:i<a.length:=by omega
   have he:=aAy (nth a i) (nth b i);simp only[Gs.row]at he;by_cases h7:nth a i=nth b i
   .rw[fJ h7]at he
    simp (disch:=omega) [-getElem?_pos,bc (l:=a),bc (l:=b),V.iI,he];exact bB' (i+1) ⟨by omega,λj nz=>by
     by_cases g:j=i
     .rw[g];exact h7
     .exact hj j (by omega)⟩
   .rw[decide_eq_false h7]at he
    simp (disch:=omega) [-getElem?_pos,bc (l:=a),bc (l:=b),V.iI,he];rw[<-hW,decide_eq_false λh=>h7 (by rw[h])]
  .rw[<-hW,fJ (FT h1 λj nz=>hj j (by omega))])
noncomputable instance:DecidableEq Dr:=λ_ _=>Classical.propDecidable _
noncomputable instance:DecidableEq Ps:=λ_ _=>Classical.propDecidable _
def aCF(a b:Ds)(h:dsL a)(G:List aM):aX F 46 [dst a,dst b] G=some (.bool (decide (a=b)),G) :=
 bD rfl rfl (by
  generalize hW:decide (a=b)=W;have no:a≠b->W=false:=λh=>by rw[<-hW,decide_eq_false h]
  by_cases h1:a.v=b.v
  case neg =>
   simp (disch:=omega) [-getElem?_pos,HS,h1];exact no λe=>h1 (by rw[e])
  by_cases h2:a.rel=b.rel
  case neg =>
   simp (disch:=omega) [-getElem?_pos,HS,h1,h2];exact no λe=>h2 (by rw[e])
  by_cases h3:(a.u.length:Int)=b.u.length
  case neg =>
   simp (disch:=omega) [-getElem?_pos,HS,h1,h2,h3];exact no λe=>h3 (by rw[e])
  have e:=aCE a.g b.g h.2;by_cases h4:a.g=b.g
  case neg =>
   rw[decide_eq_false h4]at e;simp (disch:=omega) [-getElem?_pos,HS,h1,h2,h3,e];exact no λe=>h4 (by rw[e])
  rw[fJ h4]at e;have Bq:=h.1;simp (disch:=omega) [-getElem?_pos,HS,h1,h2,h3,e];refine go_loop (λi:Nat=>arR b.u.length i a.row b.row G) (λi=>i<=a.u.length/\∀j,j<i->nth a.u j=nth b.u j) (λi=>a.u.length-i) 0 rfl (by simp) (by simp) ?_
  rintro i ⟨hi,hj⟩;simp (disch:=omega) [-getElem?_pos,adN];refine bO (λh5=>?_) (λh5=>?_)
  .have h5:i<b.u.length:=by omega
   have h6:i<a.u.length:=by omega
   have he:=aAx (nth a.u i) (nth b.u i);simp only[Us.row]at he;by_cases h7:nth a.u i=nth b.u i
   .rw[fJ h7]at he
    simp (disch:=omega) [-getElem?_pos,bc (l:=a.u),bc (l:=b.u),V.iI,he];exact bB' (i+1) ⟨by omega,λj nz=>by
     by_cases g:j=i
     .rw[g];exact h7
     .exact hj j (by omega)⟩
   .rw[decide_eq_false h7]at he
    simp (disch:=omega) [-getElem?_pos,bc (l:=a.u),bc (l:=b.u),V.iI,he];exact no λh=>h7 (by rw[h])
  .have h8:a.u=b.u:=FT (by omega) λj nz=>hj j (by omega)
   rw[<-hW,fJ];obtain⟨v,r,u,g⟩:=a;obtain⟨v2,r2,u2,g2⟩:=b;simp only at h1 h2 h4 h8;subst h1 h2 h4 h8;rfl)
def aCG(a b:List Int)(h:a.length<=17592186044416)(G:List aM):aX F 47 [wv a,wv b] G=some (.bool (decide (a=b)),G) :=
 bD rfl rfl (by
  have e1:=aCD a b h;simp[adO,e1])
def alL(a b:Fl)(h:flL a)(G:List aM):aX F 22 [fl a,fl b] G=some (.bool (decide (a=b)),G) :=
 bD rfl rfl (by
  generalize hW:decide (a=b)=W;have no:a≠b->W=false:=λh=>by rw[<-hW,decide_eq_false h]
  by_cases h1:a.t=b.t
  case neg =>
   simp (disch:=omega) [-getElem?_pos,KP,h1];exact no λe=>h1 (by rw[e])
  by_cases h2:(a.d.length:Int)=b.d.length
  case neg =>
   simp (disch:=omega) [-getElem?_pos,KP,h1,h2];exact no λe=>h2 (by rw[e])
  by_cases h3:(a.w.length:Int)=b.w.length
  case neg =>
   simp (disch:=omega) [-getElem?_pos,KP,h1,h2,h3];exact no λe=>h3 (by rw[e])
  have EZ:=h.1.1;have Ck:=h.2.1;simp (disch:=omega) [-getElem?_pos,KP,h1,h2,h3];refine go_loop (λi:Nat=>aqO b.d.length i a.row b.row G) (λi=>i<=a.d.length/\∀j,j<i->nth a.d j=nth b.d j) (λi=>a.d.length-i) 0 rfl (by simp) (by simp) ?_
  rintro i ⟨hi,hj⟩;simp (disch:=omega) [-getElem?_pos,adf];refine bO (λh5=>?_) (λh5=>?_)
  .have h5:i<b.d.length:=by omega
   have h6:i<a.d.length:=by omega
   have he:=aCF (nth a.d i) (nth b.d i) (h.1.2 i h6);by_cases h7:nth a.d i=nth b.d i
   .rw[fJ h7]at he
    simp (disch:=omega) [-getElem?_pos,bc (l:=a.d),bc (l:=b.d),he];exact bB' (i+1) ⟨by omega,λj nz=>by
     by_cases g:j=i
     .rw[g];exact h7
     .exact hj j (by omega)⟩
   .rw[decide_eq_false h7]at he
    simp (disch:=omega) [-getElem?_pos,bc (l:=a.d),bc (l:=b.d),he];exact no λh=>h7 (by rw[h])
  have h8:a.d=b.d:=FT (by omega) λj nz=>hj j (by omega)
  simp (disch:=omega) [-getElem?_pos,h3];refine go_loop (λi:Nat=>aqQ b.w.length i a.row b.row G) (λi=>i<=a.w.length/\∀j,j<i->nth a.w j=nth b.w j) (λi=>a.w.length-i) 0 rfl (by simp) (by simp) ?_
  rintro i ⟨hi,hj⟩;simp (disch:=omega) [-getElem?_pos,adg];refine bO (λh5=>?_) (λh5=>?_)
  .have h5:i<b.w.length:=by omega
   have h6:i<a.w.length:=by omega
   have he:=aCG (nth a.w i) (nth b.w i) (h.2.2 i h6);by_cases h7:nth a.w i=nth b.w i
   .rw[fJ h7]at he
    simp (disch:=omega) [-getElem?_pos,bc (l:=a.w),bc (l:=b.w),he];exact bB' (i+1) ⟨by omega,λj nz=>by
     by_cases g:j=i
     .rw[g];exact h7
     .exact hj j (by omega)⟩
   .rw[decide_eq_false h7]at he
    simp (disch:=omega) [-getElem?_pos,bc (l:=a.w),bc (l:=b.w),he];exact no λh=>h7 (by rw[h])
  have h9:a.w=b.w:=FT (by omega) λj nz=>hj j (by omega)
  rw[<-hW,fJ];obtain⟨t,d,w⟩:=a;obtain⟨t2,d2,w2⟩:=b;simp only at h1 h8 h9;subst h1 h8 h9;rfl)
end
section
open Go.Vm
end
section
open Go.Vm Go.Chs
def alM{c:Cs}{f:Fl}{i:Nat}{l:List Cd}(hf:e8 c f)(hi:i<c.s.length) :
  Inv (zW (mI l (nth f.d i).rel) (j8 l (px f.t) (oS c f i))) 0 1073741824 (j8 l (px f.t) (oS c f i)) (oq c f i l):=by
 have hr:0<=(nth f.d i).rel/\(nth f.d i).rel<=1073741824:=(hf.2.1.2 i hi).2.2.1;exact alf (λj hj=>(YH (Q7 (vq.1 hj).2) hr).2.1) (by omega)
def aI1{c:Cs}{f:Fl}(hf:e8 c f){i:Nat}(hi:i<c.s.length){l:List Cd}{w:Int}:brk c f i l (rC (oq c f i l) w)=p8 f.t i (oq c f i l).ys:=by
 have h:=alM (l:=l) hf hi;have h1:=aAN h w;have hb:=aAP h h1.1 h1.2;have hn:(j8 l (px f.t) (oS c f i)).Nodup:=akD akz;have hv:yx l (px f.t) (oS c f i) (nth f.d i).rel (rC (oq c f i l) w)=(oq c f i l).ys.map (·.1):=by
  rw[<-hb];refine Jk λj hj=>?_;simp[keeps,zW,hj]
 unfold brk p8;rw[hv,zB]
 conv=>rhs;rw[<-aAS (akE h hn),zB,zB]
 rfl
structure Mk(c:Cs)(f:Fl)(L:List (List Cd))(p:Pn)(l:List Sp):Prop where
 b:Bg c f p l.length
 w:kC c L=0
 r:gK c f (mS c f L p l)=0
variable{k:Nat}
def Mk.fl{c:Cs}{f:Fl}{L:List (List Cd)}{p:Pn}{l:List Sp}(h:Mk c f L p l)(hk:k<=l.length):e8 c (ot c f L p l k):=by
 have h1:=(aj4 h.r).at_ (k:=k) (by rw[zQ];exact hk)
 rw[Ri k hk]at h1;exact h1
structure aI2(L:List (List Cd))(V:List Vi)(x:Vi):Prop where
 w:∃i a:Nat,x.s=i/\i<L.length/\x.c=a/\a<(nth L i).length/\(x.b = -1\/∃j:Nat,x.b=j/\j<(nth L i).length/\Ord (cZ (nth L i)) j a/\∀y∈V,¬ (y.t=x.t/\y.s=x.s/\y.c=x.b))
def Ed(ys:List (Nat×Int))(k:Nat):Int:=ys.foldl (λb p=>if p.1=k then p.2 else b) (-2)
def aCH{ys:List (Nat×Int)}{p:Nat×Int}:Ed (ys++[p]) k=if p.1=k then p.2 else Ed ys k:=by simp[Ed]
def alN{k:Nat}:∀{ys:List (Nat×Int)} {b:Int},k∉ys.map (·.1)->ys.foldl (λb p=>if p.1=k then p.2 else b) b=b
 |[],_,_=>rfl
 |p::ys,b,h=>by
  simp only[nT,iA,not_or]at h;rw[M6,ax (λe=>h.1 e.symm),alN h.2]
def alO{k:Nat}:∀{ys:List (Nat×Int)},(ys.map (·.1)).Nodup->Ed ys k=wu ys k
 |[],_=>rfl
 |(i,y)::ys,h=>by
  obtain⟨h1,h2⟩:=R0.1 h;unfold Ed wu;rw[M6];by_cases e:i=k
  .subst e
   rw[aJ rfl,aJ rfl,alN h1]
  .rw[ax e,ax e]
   exact alO h2
def xm(t:Int)(i:Nat)(ys:List (Nat×Int))(B:List Nat):List Vi:=B.map λk:Nat=>⟨t,i,k,wu ys k⟩
variable{t:Int}{B:List Nat}
def alP{i:Nat}{ys:List (Nat×Int)}:(xm t i ys B).length=B.length:=by simp[xm]
def aCI{i n:Nat}{ys:List (Nat×Int)}:xm t i ys (B++[n])=xm t i ys B++[⟨t,i,n,wu ys n⟩]:=by simp[xm]
def aCJ{i:Nat}{ys:List (Nat×Int)}:xm t i ys []=[]:=rfl
noncomputable def sK(c:Cs)(f:Fl)(L:List (List Cd))(p:Pn)(l:List Sp):Int :=
 if jr c f p l.length≠0 then jr c f p l.length else if kC c L≠0 then kC c L else gK c f (fe p l)
set_option maxHeartbeats 4000000 in
def aCK{c:Cs}(hr:jO c.r){f:Fl}(hf:mf f)(p:Pn)(l:List Sp){L:List (List Cd)}(hl:L.length<=1000)(rH:kC c L=0->∀i,i<L.length->(nth L i).length<=200)(hp:∀i,i<l.length->(nth l i).a.length<=1000/\(nth l i).b.length<=1000)(G:List aM) :
  (sK c f L p l=0->aX F 28 [cs c,fl f,gf L,pn p,gu l] G=some (.tuple [.slice (some 0) 4 ((rM c f L p l l.length).map Vi.row),i64 0],G)) /\
  (sK c f L p l≠0->aX F 28 [cs c,fl f,gf L,pn p,gu l] G=some (.tuple [.slice (some 0) 4 [],i64 (sK c f L p l)],G)):=by
 suffices h:∀Q:V->Prop,(sK c f L p l=0->Q (.tuple [.slice (some 0) 4 ((rM c f L p l l.length).map Vi.row),i64 0])) ->
   (sK c f L p l≠0->Q (.tuple [.slice (some 0) 4 [],i64 (sK c f L p l)]))->gz (aX F) 28 [cs c,fl f,gf L,pn p,gu l] G λv G'=>Q v/\G'=G by
  refine⟨λh0=>?_,λh0=>?_⟩
  .obtain⟨_,G',h,rfl,rfl⟩:=h (λv=>v=_) (λ_=>rfl) (λg=>absurd h0 g)
   exact h
  .obtain⟨_,G',h,rfl,rfl⟩:=h (λv=>v=_) (λg=>absurd g h0) (λ_=>rfl)
   exact h
 intro Q MM vj;refine gN rfl rfl ?_;have h0:=Yl c hr hf p l;have h1:=aly c L hl;by_cases hz:jr c f p l.length=0
 case neg =>
  have e:sK c f L p l=jr c f p l.length:=by unfold sK;rw[aJ hz]
  rw[e]at vj;have hQ:=vj hz;have uJ:(jr c f p l.length != 0)=true:=by simp[hz]
  simp +contextual (disch:=omega) [-getElem?_pos,-List.length_eq_zero_iff,-Int.natCast_eq_zero,OY,h0,uJ];exact hQ
 by_cases hw:kC c L=0
 case neg =>
  have e:sK c f L p l=kC c L:=by unfold sK;rw[ax (λg=>g hz),aJ hw]
  rw[e]at vj;have hQ:=vj hw;have CC:(kC c L != 0)=true:=by simp[hw]
  simp +contextual (disch:=omega) [-getElem?_pos,-List.length_eq_zero_iff,-Int.natCast_eq_zero,OY,h0,hz,h1,CC];exact hQ
 have e0:sK c f L p l=gK c f (fe p l):=by unfold sK;rw[ax (λg=>g hz),ax (λg=>g hw)]
 obtain⟨hL,ho⟩:=F8 hw (rH hw);have hb:=Cn hz;have z1:=hb.c0;have z2:=hb.f0;have cv:=oh z1;have hn:=hb.len;have hm:=hb.dF;have Mh:=I7 z1;have e1:=hb.cr;rw[e0]at MM vj;simp +contextual (disch:=omega) [-getElem?_pos,-List.length_eq_zero_iff,-Int.natCast_eq_zero,OY,h0,hz,h1,hw];refine go_loop (λk:Nat=>arf (gf L) (.slice (some 1156) 4 ((rM c f L p l k).map Vi.row)) (gu l) l.length k c.row (eO c f (fe p l) k).row p.row (rM c f L p l k).length G)
  (λk=>k<=l.length/\dH (λk=>fB c (eO c f (fe p l) k) (nth (fe p l) k)) (l.length-k) k=gK c f (fe p l)/\e8 c (eO c f (fe p l) k)) (λk=>l.length-k) 0 rfl (by simp[rM,eO]) ⟨by omega,e1.symm,z2⟩ ?_
 rintro k ⟨hk,hE,oO⟩;simp +contextual (disch:=omega) [-getElem?_pos,-List.length_eq_zero_iff,-Int.natCast_eq_zero,adr];refine bO (λh5=>?_) (λh5=>?_)
 case refine_2 =>
  obtain rfl:k=l.length:=by omega
  rw[l7]at hE;exact MM hE.symm
 have h5:k<l.length:=by omega
 rw[kl h5]at hE;have DY:rM c f L p l (k+1)=rM c f L p l k++qd c (eO c f (fe p l) k) L (nth p.l k) c.s.length:=rfl;have rz:nth (fe p l) k=⟨(nth l k).a,(nth l k).b,nth p.l k⟩:=Mr h5;have MN:eO c f (fe p l) (k+1)=ue c (eO c f (fe p l) k) ⟨(nth l k).a,(nth l k).b,nth p.l k⟩:=by rw[<-rz];rfl
 have hVl:=Rp (f:=f) (p:=p) (l:=l) hL ho k;have MI:=hb.e k (by omega)
 have jH:=hp k h5;have yW:=bc h5;have MO:=bc (l:=p.l) (i:=k) (by omega)
 have hVk:(rM c f L p l k).length<=200000:=by
  have:200*c.s.length*k<=200*6*96:=A5 (by omega) (by omega)
  omega
 rw[rz]at hE;generalize hmV:rM c f L p l k=Vk at *;generalize hmF:eO c f (fe p l) k=g at *;generalize nth p.l k=w at *;generalize nth l k=s at *;simp +contextual (disch:=omega) [-getElem?_pos,-List.length_eq_zero_iff,-Int.natCast_eq_zero,yW];refine go_loop (λi:Nat=>ard (gf L) (.slice (some 1156) 4 ((Vk++qd c g L w i).map Vi.row)) k (gu l) l.length k (ru c.s) c.s.length i c.row g.row p.row s.row (Vk++qd c g L w i).length G) (λi=>i<=c.s.length) (λi=>c.s.length-i) 0 rfl (by simp[qd]) (by omega) ?_
 rintro i hi;simp +contextual (disch:=omega) [-getElem?_pos,-List.length_eq_zero_iff,-Int.natCast_eq_zero,adq];refine bO (λh6=>?_) (λh6=>?_)
 case refine_2 =>
  obtain rfl:i=c.s.length:=by omega
  obtain⟨G1,hP⟩:=QK (p:=⟨s.a,s.b,w⟩) hr (IN cv.k oO) (by simp only;omega)
  rw[wm,D3 z1 oO]at hP;by_cases h7:fB c g ⟨s.a,s.b,w⟩=0
  .rw[aJ h7]at hP hE
   simp +contextual (disch:=omega) [-getElem?_pos,-List.length_eq_zero_iff,-Int.natCast_eq_zero,MO,hP];exact bB (k+1) (by simp[DY,MN]) ⟨by omega,hE,by rw[MN];exact(IM (by rw[D3 z1 oO];exact h7)).fl⟩ (by omega)
  .rw[ax h7]at hP hE
   have Mg:(fB c g ⟨s.a,s.b,w⟩ != 0)=true:=by simp[h7]
   rw[<-hE]at vj;have hQ:=vj h7;simp +contextual (disch:=omega) [-getElem?_pos,-List.length_eq_zero_iff,-Int.natCast_eq_zero,MO,hP,Mg];exact hQ
 have h6:i<c.s.length:=by omega
 have Mp:0<=nth w i/\nth w i<=1073741824:=by have:=MI.2 i (by omega);omega
 have MR:=ho i (by omega)
 have hA:=MR.at_ (c:=c) (i:=i) oO;have sZ:0<=(nth g.d i).rel/\(nth g.d i).rel<=1073741824:=(oO.2.1.2 i h6).2.2.1;have FH:=alG oO h6 MR Mp;have H5:=als oO.1;have wH:=FI (nth c.s i).d (nth g.d i);change ∀G,aX F _ _ G=some (.tuple [i64 (oS c g i),_],G)at wH;have zb:=aCa hA (alD (by have:=MR.n;omega)) sZ Mp
 have NL:=Re (c:=c) (f:=g) (T:=w) ho i (by omega)
 have YV:=dQ (l:=w) (i:=i) (by omega)
 have EZ:g.d.length=c.s.length:=oO.2.1.1;have NU:((oq c g i (nth L i)).ys.map (·.1)).Nodup:=akE (alM (l:=nth L i) oO h6) (akD akz)
 have oR:=MK (c:=c) (f:=g) (i:=i) MR;have xa:=YO (c:=c) (f:=g) (i:=i) (r:=nth w i) MR;have MC:qd c g L w (i+1)=qd c g L w i++brk c g i (nth L i) (nth w i):=rfl;have hBd:brk c g i (nth L i) (nth w i)=xm g.t i (oq c g i (nth L i)).ys (yx (nth L i) (px g.t) (oS c g i) (nth g.d i).rel (nth w i)):=rfl;generalize oq c g i (nth L i)=C at *;generalize yx (nth L i) (px g.t) (oS c g i) (nth g.d i).rel (nth w i)=B at *;generalize (j8 (nth L i) (px g.t) (oS c g i)).filter (keeps (mI (nth L i) (nth g.d i).rel) (nth w i))=K at *;generalize oS c g i=lv at *;rw[hBd]at MC xa
 simp +contextual (disch:=omega) [-getElem?_pos,-List.length_eq_zero_iff,-Int.natCast_eq_zero,bc (l:=c.s),bc (l:=g.d),bc (l:=L),MO,YV,H5,wH,zb,FH];refine go_loop (λj:Nat=>arb (gf L) (.slice (some 1156) 4 ((Vk++qd c g L w i++xm g.t i C.ys (B.take j)).map Vi.row)) k i (gu l) l.length k (ru c.s) c.s.length i (.slice none 1 (iV B)) B.length j c.row g.row p.row s.row [i64 (rC C (nth w i)),i64 C.lo,i64 C.hi,.slice none 2 (j9 C.ys)] (Vk++qd c g L w i++xm g.t i C.ys (B.take j)).length G) (λj=>j<=B.length) (λj=>B.length-j) 0 rfl (by simp[aCJ]) (by omega) ?_
 rintro j hj;simp +contextual (disch:=omega) [-getElem?_pos,-List.length_eq_zero_iff,-Int.natCast_eq_zero,adp];refine bO (λh8=>?_) (λh8=>?_)
 case refine_2 =>
  obtain rfl:j=B.length:=by omega
  exact bB (i+1) (by simp[MC]) (by omega) (by omega)
 have h8:j<B.length:=by omega
 have hgB:(iV B)[j]?=some [i64 ((nth B j:Nat):Int)]:=Rn h8;have QQ:=jV h8;generalize nth B j=n at *;simp +contextual (disch:=omega) [-getElem?_pos,-List.length_eq_zero_iff,-Int.natCast_eq_zero,hgB]
 refine go_loop (λm:Nat=>aq5 (gf L) (.slice (some 1156) 4 ((Vk++qd c g L w i++xm g.t i C.ys (B.take j)).map Vi.row)) k i n (gu l) l.length k (ru c.s) c.s.length i (.slice none 1 (iV B)) B.length j (.slice none 2 (j9 C.ys)) C.ys.length m c.row g.row p.row s.row [i64 (rC C (nth w i)),i64 C.lo,i64 C.hi,.slice none 2 (j9 C.ys)] [i64 g.t,i64 (i:Int),i64 (n:Int),i64 (Ed (C.ys.take m) n)] (Vk++qd c g L w i++xm g.t i C.ys (B.take j)).length G) (λm=>m<=C.ys.length) (λm=>C.ys.length-m) 0 rfl (by simp[Ed]) (by omega) ?_
 rintro m hm;simp +contextual (disch:=omega) [-getElem?_pos,-List.length_eq_zero_iff,-Int.natCast_eq_zero,ado];refine bO (λh9=>?_) (λh9=>?_)
 .have h9:m<C.ys.length:=by omega
  have zX:(j9 C.ys)[m]?=some [i64 (((nth C.ys m).1:Nat):Int),i64 (nth C.ys m).2]:=by simp[j9,nth,List.getD,h9]
  have gT:=jV h9;have Ck:=aCH (ys:=C.ys.take m) (p:=nth C.ys m) (k:=n);rw[<-gT]at Ck;generalize nth C.ys m=z at *;by_cases e:z.1=n
  .rw[aJ e]at Ck
   simp +contextual (disch:=omega) [-getElem?_pos,-List.length_eq_zero_iff,-Int.natCast_eq_zero,zX,e];exact bB (m+1) (by simp[Ck]) (by omega) (by omega)
  .rw[ax e]at Ck
   have e2:(((z.1:Nat):Int)==(n:Int))=false:=tC.2 (by omega)
   simp +contextual (disch:=omega) [-getElem?_pos,-List.length_eq_zero_iff,-Int.natCast_eq_zero,zX,e2];exact bB (m+1) (by simp[Ck]) (by omega) (by omega)
 .obtain rfl:m=C.ys.length:=by omega
  have Ck:Ed C.ys n=wu C.ys n:=alO NU;have hbj:(xm g.t i C.ys (B.take j)).length=j:=by rw[alP,CJ];omega
  have LH:Vk.length+((qd c g L w i).length+(xm g.t i C.ys (B.take j)).length)<=4398046511103:=by
   rw[alP]at xa;omega
  rw[mL,Ck];simp +contextual (disch:=omega) [-getElem?_pos,-List.length_eq_zero_iff,-Int.natCast_eq_zero,LH];exact bB (j+1) (by simp[QQ,aCI];omega) (by omega) (by omega)
end
section
open Go.Vm
attribute [local simp] mX mY lX mW
variable{l:List Int}{k:Nat}
def aCN(hd:dz l k):∃a b k',aX F 101 [.bu 0 0] [dk l k]=some (.agg [i64 a,i64 b],[dk l k'])/\dz l k':=by
 suffices h:∀Q:V->List aM->Prop,(∀a b k',dz l k'->Q (.agg [i64 a,i64 b]) [dk l k'])->gz (aX F) 101 [.bu 0 0] [dk l k] Q by
  obtain⟨_,_,h,a,b,k',rfl,rfl,h1⟩:=h (λv G=>∃a b k',v=.agg [i64 a,i64 b]/\G=[dk l k']/\dz l k') λa b k' h=>⟨a,b,k',rfl,rfl,h⟩;exact⟨a,b,k',h,h1⟩
 intro Q hQ;refine gN rfl rfl ?_;obtain⟨m,k1,n1,iD,hm⟩:=fG hd 4 (by omega)
 by_cases h0:m=0
 .simp[O7,n1,h0]
  exact hQ _ _ _ iD
 by_cases h1:m=1
 .obtain⟨m2,k2,n2,fu,_⟩:=fG iD 10 (by omega)
  obtain⟨m3,k3,n3,l9,_⟩:=fG fu 10 (by omega)
  simp[O7,n1,h0,h1,n2,n3];exact hQ _ _ _ l9
 .obtain⟨m2,k2,n2,fu,_⟩:=fG iD 365 (by omega)
  obtain⟨m3,k3,n3,l9,_⟩:=fG fu 365 (by omega)
  simp[O7,n1,h0,h1,n2,n3];exact hQ _ _ _ l9
def aCO(hd:dz l k):∃(x:Cd) (k':Nat),aX F 62 [.bu 0 0] [dk l k]=some (.agg x.row,[dk l k'])/\dz l k':=by
 suffices h:∀Q:V->List aM->Prop,(∀(x:Cd) k',dz l k'->Q (.agg x.row) [dk l k'])->gz (aX F) 62 [.bu 0 0] [dk l k] Q by
  obtain⟨_,_,h,x,k',rfl,rfl,h1⟩:=h (λv G=>∃(x:Cd) (k':Nat),v=.agg x.row/\G=[dk l k']/\dz l k') λx k' h=>⟨x,k',rfl,rfl,h⟩;exact⟨x,k',h,h1⟩
 intro Q hQ;refine gN rfl rfl ?_;obtain⟨m1,k1,n1,iD,H9⟩:=fG hd 4 (by omega)
 obtain⟨m2,k2,n2,fu,LF⟩:=fG iD 4 (by omega)
 obtain⟨m3,k3,n3,l9,LG⟩:=fG fu 30 (by omega)
 obtain⟨a,b,k4,n4,tl⟩:=aCN l9;obtain⟨m5,k5,n5,AL,hm5⟩:=fG tl 3 (by omega)
 by_cases h0:m5=0
 .obtain⟨m6,k6,n6,BU,hm6⟩:=fG AL 60 (by omega)
  obtain⟨m7,k7,n7,PR,hm7⟩:=fG BU 80 (by omega)
  simp (disch:=omega) [Vp,n1,n2,n3,n4,n5,h0,n6,n7];exact hQ ⟨1+m1,1+m2,m3,a,b,90+m6,90+m6+m7⟩ _ PR
 .have MF:(m5==0)=false:=by simp[h0]
  simp (disch:=omega) [Vp,n1,n2,n3,n4,n5,MF];exact hQ ⟨1+m1,1+m2,m3,a,b,0,16777216⟩ _ AL
abbrev YZ(l:List Cd):V:=.slice (some 0) 7 (l.map Cd.row)
def aCQ(hd:dz l k):∃(x:List Cd) (k':Nat),aX F 32 [.bu 0 0] [dk l k]=some (YZ x,[dk l k'])/\dz l k'/\x.length<=6:=by
 suffices h:∀Q:V->List aM->Prop,(∀(x:List Cd) k',dz l k'->x.length<=6->Q (YZ x) [dk l k'])->gz (aX F) 32 [.bu 0 0] [dk l k] Q by
  obtain⟨_,_,h,x,k',rfl,rfl,h1⟩:=h (λv G=>∃(x:List Cd) (k':Nat),v=YZ x/\G=[dk l k']/\dz l k'/\x.length<=6) λx k' h h2=>⟨x,k',rfl,rfl,h,h2⟩;exact⟨x,k',h,h1⟩
 intro Q hQ;refine gN rfl rfl ?_;obtain⟨m,k1,n1,iD,hm⟩:=fG hd 7 (by omega)
 simp (disch:=omega) [adz,n1];refine go_loop (λy:List Cd×Nat=>arq (.bu 0 0) (.slice (some 1015) 7 (y.1.map Cd.row)) (m-y.1.length) y.1.length [dk l y.2]) (λy=>(y.1.length:Int)<=m/\dz l y.2) (λy=>(m-y.1.length).toNat) ([],k1) rfl (by simp) ⟨by simp;omega,iD⟩ ?_
 rintro⟨x,k⟩ ⟨h1,hd⟩;simp only at h1 hd;simp (disch:=omega) [ady];refine bO (λh5=>?_) (λh5=>?_)
 .obtain⟨c,k2,n2,fu⟩:=aCO hd
  have hx:x.length<=2513169434915:=by omega
  simp (disch:=omega) [n2,hx];exact bB (x++[c],k2) (by simp;omega) ⟨by simp;omega,fu⟩ (by simp;omega)
 .exact hQ x k hd (by omega)
abbrev Y0(L:List (List Cd)):V:=.slice (some 0) 1 (L.map λl=>[dB l])
variable{c:Cs}
def aCR(hd:dz l k)(hs:c.s.length<=1000):∃(L:List (List Cd)) (k':Nat),aX F 12 [.bu 0 0,cs c] [dk l k]=some (Y0 L,[dk l k'])/\dz l k'/\L.length=c.s.length/\∀i,i<L.length->(nth L i).length<=6:=by
 suffices h:∀Q:V->List aM->Prop,(∀(x:List (List Cd)) k',dz l k'->x.length=c.s.length->(∀i,i<x.length->(nth x i).length<=6)->Q (Y0 x) [dk l k'])->gz (aX F) 12 [.bu 0 0,cs c] [dk l k] Q by
  obtain⟨_,_,h,x,k',rfl,rfl,h1⟩:=h (λv G=>∃(x:List (List Cd)) (k':Nat),v=Y0 x/\G=[dk l k']/\dz l k'/\x.length=c.s.length/\∀i,i<x.length->(nth x i).length<=6) λx k' h h2 h3=>⟨x,k',rfl,rfl,h,h2,h3⟩;exact⟨x,k',h,h1⟩
 intro Q hQ;refine gN rfl rfl ?_;simp (disch:=omega) [ac6];refine go_loop (λy:List (List Cd)×Nat=>aqA (.bu 0 0) (.slice (some 1015) 1 (y.1.map λl=>[dB l])) c.s.length y.1.length y.1.length [dk l y.2]) (λy=>y.1.length<=c.s.length/\dz l y.2/\∀i,i<y.1.length->(nth y.1 i).length<=6) (λy=>c.s.length-y.1.length) ([],k) rfl (by simp) ⟨by simp,hd,by simp⟩ ?_
 rintro⟨x,k⟩ ⟨h1,hd,hx6⟩;simp only at h1 hd hx6;simp (disch:=omega) [ac5];refine bO (λh5=>?_) (λh5=>?_)
 .obtain⟨q,k2,n2,fu,hq⟩:=aCQ hd
  have hx:x.length<=5864062014804:=by omega
  simp (disch:=omega) [n2,hx];refine bB (x++[q],k2) (by simp) ⟨by simp;omega,fu,λi hi=>?_⟩ (by simp;omega)
  simp only[jQ,rQ]at hi;rw[jM];by_cases g:i<x.length
  .rw[aJ g];exact hx6 i g
  .rw[ax g,aJ'];exact hq
 .exact hQ x k hd (by omega) hx6
def Rw(a:List Vi)(ha:a.length<=1000000000)(G:List aM):aX F 26 [AZ a,AZ a] G=some (.bool true,G) :=
 bD rfl rfl (by
  simp (disch:=omega) [adn];refine go_loop (λi:Nat=>aq3 (AZ a) (AZ a) a.length i G) (λi=>i<=a.length) (λi=>a.length-i) 0 rfl (by simp) (by simp) ?_
  rintro i hi;simp (disch:=omega) [adm];refine bO (λh5=>?_) (λh5=>?_)
  .have h5:i<a.length:=by omega
   simp (disch:=omega) [bc (l:=a),V.iI,eD,kc];exact bB' (i+1)
  .simp)
def alR(hd:dz l k)(hn:1<=c.r.n/\c.r.n<=40)(hs:c.s.length<=10)(t:Int){n:Nat}(hm:n<=1000) :
  ∃p k',aX F 9 [.bu 0 0,cs c,i64 t,i64 n] [dk l k]=some (.agg [i64 t,Yo p],[dk l k'])/\dz l k'/\p.length=n/\∀i,i<p.length->(nth p i).length<=10:=by
 suffices h:∀Q:V->List aM->Prop,(∀p k',dz l k'->p.length=n->(∀i,i<p.length->(nth p i).length<=10)->Q (.agg [i64 t,Yo p]) [dk l k'])->gz (aX F) 9 [.bu 0 0,cs c,i64 t,i64 n] [dk l k] Q by
  obtain⟨_,_,h,q,k',rfl,rfl,h1⟩:=h (λv G=>∃p k',v=.agg [i64 t,Yo p]/\G=[dk l k']/\dz l k'/\p.length=n/\∀i,i<p.length->(nth p i).length<=10) λp k' a b e=>⟨p,k',rfl,rfl,a,b,e⟩;exact⟨q,k',h,h1⟩
 intro Q hQ;refine gN rfl rfl ?_;simp (disch:=omega) [ac1];refine go_loop (λy:List (List Int)×Nat=>aqv (.bu 0 0) n y.1.length c.row [z0,.cj] [i64 t,.slice (some 1022) 1 (y.1.map λp=>[ints p])] y.1.length [dk l y.2]) (λy=>y.1.length<=n/\dz l y.2/\∀i,i<y.1.length->(nth y.1 i).length<=10) (λy=>n-y.1.length) ([],k) rfl (by simp) ⟨by simp,hd,by simp⟩ ?_
 rintro⟨p,k⟩ ⟨h1,hd,hr⟩;simp only at h1 hd hr;simp (disch:=omega) [ac0];refine bO (λh5=>?_) (λh5=>?_)
 .obtain⟨q,k2,n2,fu,hp⟩:=XZ hd (c:=c) hn hs
  simp (disch:=omega) [n2];refine bB (p++[q.c],k2) (by simp) ⟨by simp;omega,fu,λi hi=>?_⟩ (by simp;omega)
  simp only[jQ,rQ]at hi;rw[jM];by_cases g:i<p.length
  .rw[aJ g];exact hr i g
  .rw[ax g,aJ']
   have:=hp.1.2.2;omega
 .obtain e:p.length=n:=by omega
  exact hQ p k hd e hr
def aCS{l:List Cd}(h:oP l=0):l.length<=200:=by
 unfold oP at h;split at h
 .cases h
 .omega
variable{L:List (List Cd)}
def Gb(h:kC c L=0):∀i,i<L.length->(nth L i).length<=200:=by
 unfold kC at h;split at h
 .exact λi hi=>aCS (tT h i (by omega) (by omega))
 .cases h
structure MkB(c:Cs)(f:Fl)(L:List (List Cd))(p:Pn)(l:List Sp):Prop where
 w:∃(q:Pn) (u:List Vi) (e:Int) (t1 t2 t3 t4:Option Nat) (G1:List aM),aX F 24 [cs c,fl f,gf L,pn p,gu l] []=some (.tuple [.agg [i64 q.f,.slice t1 1 (q.l.map λp=>[ints p])],.slice t2 4 (u.map Vi.row),i64 e],G1) /\
  (∀G,aX F 25 [cs c,fl f,gf L,pn p,gu l] G=some (.tuple [.agg [i64 q.f,.slice t3 1 (q.l.map λp=>[ints p])],.slice t4 4 (u.map Vi.row),i64 e],G)) /\
  (∀G,aX F 16 [pn q,pn q] G=some (.bool true,G))/\(∀G,aX F 26 [AZ u,AZ u] G=some (.bool true,G))
variable{f:Fl}
def mkB(hr:jO c.r)(hf:mf f)(p:Pn)(l:List Sp)(hl:L.length<=1000)(hp:∀i,i<l.length->(nth l i).a.length<=1000/\(nth l i).b.length<=1000):MkB c f L p l:=by
 have hR:=λG=>aCp hr hf p l hl Gb hp G;have e0:=Rl ⟨0,[]⟩ ⟨0,[]⟩ (by simp) (by simp)
 have e1:=Rw [] (by simp)
 rw[fJ rfl]at e0;have h0:=IS c hr hf p 49 [.bu 0 0,.bu 1 0,.bu 3 0,.bu 2 0] l;by_cases hz:jr c f p l.length=0
 case neg =>
  have e:qe c f L p l=jr c f p l.length:=by unfold qe;rw[aJ hz]
  rw[e]at hR;have uJ:(jr c f p l.length != 0)=true:=by simp[hz]
  exact⟨⟨0,[]⟩,[],_,some 0,some 0,_,_,_,bD (G':=[.cells c.row,.cells [gf L],.cells [i64 p.f,.eC 1 []],.cells [.eC 4 []]]) rfl rfl (by simp[DF,h0,uJ]),λG=>(hR G).2 hz,e0,e1⟩
 by_cases hw:kC c L=0
 case neg =>
  have e:qe c f L p l=kC c L:=by unfold qe;rw[ax (λg=>g hz),aJ hw]
  rw[e]at hR;have h1:=Rf c L hl;have CC:(kC c L != 0)=true:=by simp[hw]
  exact⟨⟨0,[]⟩,[],_,some 0,some 0,_,_,_,bD (G':=[.cells c.row,.cells [gf L],.cells [i64 p.f,.eC 1 []],.cells [.eC 4 []]]) rfl rfl (by simp[DF,h0,hz,h1,CC]),λG=>(hR G).2 hw,e0,e1⟩
 have hM:=aCn hr hf p l hl (Gb hw);by_cases hE:qe c f L p l=0
 case neg =>
  obtain⟨t,u,G1,h⟩:=hM.2 hE;exact⟨⟨0,[]⟩,[],_,t,u,_,_,G1,h,λG=>(hR G).2 hE,e0,e1⟩
 obtain⟨G1,h⟩:=hM.1 hE;have hb:=Cn hz;have h6:=I7 hb.c0;have h96:=hb.dF;have hv:=Rj (f:=f) (p:=p) (l:=l) (F8 hw (Gb hw)).1 (F8 hw (Gb hw)).2 l.length;have X7:200*c.s.length*l.length<=200*6*96:=A5 (by omega) (by omega)
 have e2:=Rl ⟨p.f,mi c f L p l l.length⟩ ⟨p.f,mi c f L p l l.length⟩ (by simp only[Rg];omega) (λi hi=>by
  simp only[Rg]at hi ⊢;rw[Rh hi,alj];omega)
 rw[fJ rfl]at e2;exact⟨⟨p.f,mi c f L p l l.length⟩,_,_,none,none,_,_,G1,h,λG=>(hR G).1 hE,e2,Rw _ (by omega)⟩
structure aCV(c:Cs)(f:Fl)(L:List (List Cd))(p:Pn)(l:List Sp):Prop where
 w:∃(u:List Vi) (e:Int) (t1 t2:Option Nat) (G1:List aM),aX F 27 [cs c,fl f,gf L,pn p,gu l] []=some (.tuple [.slice t1 4 (u.map Vi.row),i64 e],G1) /\
  (∀G,aX F 28 [cs c,fl f,gf L,pn p,gu l] G=some (.tuple [.slice t2 4 (u.map Vi.row),i64 e],G))/\(∀G,aX F 26 [AZ u,AZ u] G=some (.bool true,G))
def alT(hr:jO c.r)(hf:mf f)(p:Pn)(l:List Sp)(hl:L.length<=1000)(hp:∀i,i<l.length->(nth l i).a.length<=1000/\(nth l i).b.length<=1000):aCV c f L p l:=by
 have hR:=λG=>aCK hr hf p l hl Gb hp G;have e1:=Rw [] (by simp)
 have h0:=IS c hr hf p 54 [.bu 2 0,.bu 0 0,.bu 1 0] l;have h1:=Rf c L hl;by_cases hz:jr c f p l.length=0
 case neg =>
  have e:sK c f L p l=jr c f p l.length:=by unfold sK;rw[aJ hz]
  rw[e]at hR;have uJ:(jr c f p l.length != 0)=true:=by simp[hz]
  exact⟨[],_,some 0,_,_,bD (G':=[.cells c.row,.cells [gf L],.cells [.eC 4 []]]) rfl rfl (by simp[KW,h0,uJ]),λG=>(hR G).2 hz,e1⟩
 by_cases hw:kC c L=0
 case neg =>
  have e:sK c f L p l=kC c L:=by unfold sK;rw[ax (λg=>g hz),aJ hw]
  rw[e]at hR;have CC:(kC c L != 0)=true:=by simp[hw]
  exact⟨[],_,some 0,_,_,bD (G':=[.cells c.row,.cells [gf L],.cells [.eC 4 []]]) rfl rfl (by simp[KW,h0,hz,h1,CC]),λG=>(hR G).2 hw,e1⟩
 have e:sK c f L p l=gK c f (fe p l):=by unfold sK;rw[ax (λg=>g hz),ax (λg=>g hw)]
 rw[e]at hR;obtain⟨hL,ho⟩:=F8 hw (Gb hw);have hb:=Cn hz;by_cases hE:gK c f (fe p l)=0
 case neg =>
  obtain⟨m,h2,_⟩:=alE hr hf hb hL ho;rw[lJ,ax hE]at h2;have Y3:(gK c f (fe p l) != 0)=true:=by simp[hE]
  exact⟨[],_,some 0,_,_,bD (G':=vG c L (rM c f L p l m)) rfl rfl (by simp +contextual (disch:=omega) [-getElem?_pos,-List.length_eq_zero_iff,-Int.natCast_eq_zero,KW,vG,h0,hz,h1,hw,h2,Y3]),λG=>(hR G).2 hE,e1⟩
 obtain⟨G1,h⟩:=aCm hr hf p l hl (Gb hw) hz hw hE;have h6:=I7 hb.c0;have h96:=hb.dF;have hv:=Rp (f:=f) (p:=p) (l:=l) hL ho l.length;have X7:200*c.s.length*l.length<=200*6*96:=A5 (by omega) (by omega)
 exact⟨_,_,none,_,G1,h,λG=>(hR G).1 hE,Rw _ (by omega)⟩
structure aCW(c:Cs)(f:Fl)(p:Pn)(l:List Sp):Prop where
 w:∃(a:Fl) (b:List Ps) (e:Int) (t1 t2 t3 t4 t5 t6:Option Nat) (G1 G2:List aM),aX F 20 [cs c,fl f,pn p,gu l] []=some (.tuple [.agg [i64 a.t,.slice t1 4 (a.d.map Ds.row),.slice t2 1 (a.w.map λp=>[ints p])],.slice t3 3 (b.map Ps.row),i64 e],G1) /\
  aX F 21 [cs c,fl f,pn p,gu l] []=some (.tuple [.agg [i64 a.t,.slice t4 4 (a.d.map Ds.row),.slice t5 1 (a.w.map λp=>[ints p])],.slice t6 3 (b.map Ps.row),i64 e],G2) /\
  (∀G,aX F 22 [fl a,fl a] G=some (.bool true,G))/\(∀G,aX F 23 [.slice none 3 (b.map Ps.row),.slice none 3 (b.map Ps.row)] G=some (.bool true,G))
def alU(hr:jO c.r)(hf:mf f)(p:Pn)(l:List Sp)(hp:∀i,i<l.length->(nth l i).a.length<=1000/\(nth l i).b.length<=1000):aCW c f p l:=by
 obtain⟨X,hX0,hX1,hX⟩:=aj7 hr hf p l [];obtain⟨G2,hR⟩:=aAl hr hf p l hp;by_cases hE:xg c f p l=0
 case neg =>
  obtain⟨t,u,rfl⟩:=hX1 hE;have s1:=alL ⟨0,[],[]⟩ ⟨0,[],[]⟩ ⟨⟨by simp,λi hi=>absurd hi (by simp)⟩,by simp,λi hi=>absurd hi (by simp)⟩
  rw[fJ rfl]at s1;have s5:=alK [] (by simp) (by simp)
  have Y3:yt (some 0) c f p l=Yg (some 0) (xg c f p l):=by
   unfold yt xg at *;by_cases hz:jr c f p l.length=0
   .rw[aJ hz,ax (λg=>g hz)]at *
    rw[lJ,ax hE]
   .rw[ax hz,aJ hz]
  rw[Y3]at hR;exact⟨⟨0,[],[]⟩,[],_,_,_,_,_,_,_,_,_,hX,hR,s1,s5⟩
 obtain rfl:=hX0 hE;have hz:jr c f p l.length=0:=by
  unfold xg at hE;split at hE
  next g=>exact absurd hE g
  next g=>exact jf g
 have hc:gK c f (fe p l)=0:=by
  unfold xg at hE
  rwa [ax (λg=>g hz)]at hE
 have ra:=aj4 hc;have hb:=Cn hz;have hA:yt (some 0) c f p l=.tuple [fl (eO c f (fe p l) l.length),.slice (some 0) 3 ((tx c f (fe p l) l.length).map Ps.row),i64 0]:=by
  unfold yt;rw[aJ hz,lJ,aJ hc,zQ]
 rw[hA]at hX hR;have s1:=alL (eO c f (fe p l) l.length) (eO c f (fe p l) l.length) (aCC hb.c0 (ra.at_ (by rw[zQ];exact b8 _)))
 rw[fJ rfl]at s1;have hm:=hb.dF;have s5:=alK (tx c f (fe p l) l.length) (by simp;omega) (λi hi=>by
  simp only[aAe]at hi;rw[tx,show nth ((List.range l.length).map (zP c f (fe p l))) i=zP c f (fe p l) i by simp[nth,List.getD,hi]]
  exact aCB ra (by rw[zQ];exact hi))
 exact⟨_,_,_,_,_,_,_,_,_,_,_,hX,hR,s1,s5⟩
instance:Inhabited Pn:=⟨⟨0,[]⟩⟩
structure Y4(c:Cs)(f:Fl)(q:List Sp)(X:List Pn)(p:Pn)(Y:List (List (List Cd))):Prop where
 hr:jO c.r
 hf:mf f
 hp:∀i,i<q.length->(nth q i).a.length<=1000/\(nth q i).b.length<=1000
 x3:X.length=3
 xl:∀i,i<3->(nth X i).l.length<=17592186044416/\∀j,j<(nth X i).l.length->(nth (nth X i).l j).length<=17592186044416
 y2:Y.length=2
 yl:∀i,i<2->(nth Y i).length<=1000
variable{p:Pn}
def alW{t:Int}(h:∀i,i<p.l.length->(nth p.l i).length<=17592186044416):(mj p t).length<=17592186044416:=by
 unfold mj;split
 .rcases cS (IntKind.i64.wrap (t-p.f)).toNat p.l.length with g|g
  .exact h _ g
  .have e:nth p.l (IntKind.i64.wrap (t-p.f)).toNat=[]:=by simp[nth,List.getD,kW g];rfl
   rw[e];simp
 .simp
abbrev Rx(_:List (List Cd)):V:=.cj
abbrev Ry(L:List (List Cd)):V:=.bY 20102 1 L.length
abbrev alX(_:List (List Cd)):V:=.slice none 1 []
abbrev alY(L:List (List Cd)):V:=gf L
abbrev Gd(_:List (List Cd)):V:=.cj
abbrev Ge(L:List (List Cd)):V:=gf L
abbrev Gf(_:List (List Cd)):List (Nat×List V):=[]
abbrev Gg(_:List (List Cd)):List (Nat×List V):=[]
abbrev Y5(_:List (List Cd)):List (Nat×List V):=[]
abbrev Y6(L:List (List Cd)):List (Nat×List V):=[(20102,L.map dB)]
def alZ:ju [some 7] (chunks 1 (L.map dB) 0 L.length)=some (L.map λl=>[dB l]):=by
 rw[E1 _ _ _ rfl (by simp),tA,kD (by simp),zB]
 induction L with
 |nil=>rfl
 |cons l L ih=>simp only[nT,ju,Function.comp]at ih ⊢;rw[ih];rfl
variable{L':List (List Cd)}
set_option maxHeartbeats 4000000 in
def aCZ{q:List Sp}{X:List Pn}(h:Y4 c f q X p [L,L'])(hL:Rx L'=.cj->L'=[])(vg:0<=f.t/\f.t<=16777216)(time:Int)(G:List aM) :
  go (aX F) US ⟨[(2,V.int .i64 time),(13,.bn 13 0),(14,.bn 14 0),(16,.bn 16 0),(18,gu q),(19,gf L),(20,Rx L'),(116,.slice none 2 (X.map Pn.row)),(117,V.int .i64 3),(118,V.int .i64 0)],(13,c.row)::(14,f.row)::(16,p.row)::Y5 L',[],G⟩
   (bk 2 (sq (aX F) (zz [zt 8 true] ⟨[8],[],[]⟩ .ret) (xX [.t 8 [none]] λv _=>v=.bool true))):=by
 refine go_loop (λi:Nat=>(⟨[(2,V.int .i64 time),(13,.bn 13 0),(14,.bn 14 0),(16,.bn 16 0),(18,gu q),(19,gf L),(20,Gd L'),(116,.slice none 2 (X.map Pn.row)),(117,V.int .i64 3),(118,V.int .i64 i)],(13,c.row)::(14,f.row)::(16,p.row)::Gf L',[],G⟩:St)) (λi=>i<=3) (λi=>3-i) 0 rfl (by simp[Rx,Gd,Gf,Y5,alZ]) (by omega) ?_
 rintro i hi;simp +contextual (disch:=omega) [-getElem?_pos,-List.length_eq_zero_iff,-Int.natCast_eq_zero,UR,Gd,Gf];refine bO (λh1=>?_) (λh1=>?_)
 case refine_2=>trivial
 have h1:i<3:=by omega
 obtain⟨hr,hf,hp,hx3,tN,YC,oR⟩:=h;obtain⟨wi,sn⟩:=tN i h1;have Y7:=bc (l:=X) (i:=i) (by omega)
 generalize nth X i=x at *;have k1:=Yj c hr x;have k2:=Yk c hr x;have k3:=Yq x p wi sn;have k4:=Rl x p wi sn;generalize decide (x=p)=bq at k3 k4;have hm:=PG (v:=time) (n:=8) (by omega) (by omega)
 have k5:=PF (n:=time) (m:=8) (by omega)
 simp +contextual (disch:=omega) [-getElem?_pos,-List.length_eq_zero_iff,-Int.natCast_eq_zero,Y7,k1,k2,k3,k4,k5];obtain⟨T,hT⟩:∃T:List Int,T=[time,f.t+AG time 8]:=⟨_,rfl⟩;have LC:T.length=2:=by rw[hT];rfl
 refine go_loop (λj:Nat=>(⟨[(2,V.int .i64 time),(13,.bn 13 0),(14,.bn 14 0),(16,.bn 16 0),(18,gu q),(19,gf L),(20,Gd L'),(22,.bn 22 0),(116,.slice none 2 (X.map Pn.row)),(117,V.int .i64 3),(118,V.int .i64 i),(144,ints T),(145,V.int .i64 2),(146,V.int .i64 j)],(13,c.row)::(14,f.row)::(16,p.row)::(22,x.row)::Gf L',[],G⟩:St)) (λj=>j<=2) (λj=>2-j) 0 rfl (by simp[hT]) (by omega) ?_
 rintro j hj;simp +contextual (disch:=omega) [-getElem?_pos,-List.length_eq_zero_iff,-Int.natCast_eq_zero,UP,Gd,Gf];refine bO (λh2=>?_) (λh2=>?_)
 .have h2:j<2:=by omega
  have Y8:=dQ (l:=T) (i:=j) (by omega)
  obtain⟨kk,a1⟩:∃kk,∀G,aX F 17 [pn x,i64 (nth T j)] G=some (.tuple [.slice kk 1 ((mj x (nth T j)).map λn=>[i64 n]),.bool (oT x (nth T j))],G):=alx x (nth T j) sn;have a2:=alw x (nth T j) sn;have a3:=YQ (mj x (nth T j)) (mj x (nth T j)) (alW sn);rw[fJ rfl]at a3;generalize mj x (nth T j)=A at *;generalize oT x (nth T j)=B at *;generalize nth T j=tt at *;simp +contextual (disch:=omega) [-getElem?_pos,-List.length_eq_zero_iff,-Int.natCast_eq_zero,Y8,a1,a2,a3];exact bB' (j+1)
 clear k1 k2 k3 k4 k5 hm hT LC
 obtain⟨a,b,e,t1,t2,t3,t4,t5,t6,G1,G2,r1,r2,r3,r4⟩:=(alU hr hf x q hp).w;simp +contextual (disch:=omega) [-getElem?_pos,-List.length_eq_zero_iff,-Int.natCast_eq_zero,r1,r2,r3,r4];have Y9:(V.slice none 1 []:V)=gf []:=rfl;obtain⟨Y,hY⟩:∃Y:List (List (List Cd)),Y=[L,L']:=⟨_,rfl⟩;have hYl:Y.length=2:=by rw[hY];rfl
 have oR:∀i,i<2->(nth Y i).length<=1000:=λi hi=>by rw[hY];exact oR i hi
 have MS:V.slice none 1 [[V.slice none 1 (L.map λl=>[dB l])],[alX L']]=.slice none 1 (Y.map λL=>[gf L]):=by
  rw[hY]
  first|rfl|(rw[hL rfl];rfl)
 rw[show(V.slice none 1 [[V.slice none 1 (L.map λl=>[dB l])],[alX L']])=_ from MS]
 clear MS r1 r2 r3 r4 Y9
 refine go_loop (λj:Nat=>(⟨[(2,V.int .i64 time),(13,.bn 13 0),(14,.bn 14 0),(16,.bn 16 0),(18,gu q),(19,gf L),(20,Gd L'),(22,.bn 22 0),(116,.slice none 2 (X.map Pn.row)),(117,V.int .i64 3),(118,V.int .i64 i),(207,.slice none 1 (Y.map λL=>[gf L])),(208,V.int .i64 2),(209,V.int .i64 j)],(13,c.row)::(14,f.row)::(16,p.row)::(22,x.row)::Gf L',[],G⟩:St)) (λj=>j<=2) (λj=>2-j) 0 rfl (by simp) (by omega) ?_
 rintro j hj;simp +contextual (disch:=omega) [-getElem?_pos,-List.length_eq_zero_iff,-Int.natCast_eq_zero,UQ,Gd,Gf];refine bO (λh3=>?_) (λh3=>?_)
 case refine_2=>exact bB' (i+1)
 have h3:j<2:=by omega
 have Za:=bc (l:=Y) (i:=j) (by omega)
 have I3:=oR j h3;generalize nth Y j=D at *;obtain⟨q1,u1,e1,s1,s2,s3,s4,G3,m1,m2,m3,m4⟩:=(mkB hr hf x q I3 hp).w;obtain⟨u2,e2,s5,s6,G4,w1,w2,w3⟩:=(alT hr hf x q I3 hp).w;simp +contextual (disch:=omega) [-getElem?_pos,-List.length_eq_zero_iff,-Int.natCast_eq_zero,Za,m1,m2,m3,m4,w1,w2,w3];exact bB' (j+1)
set_option maxHeartbeats 4000000 in
def aC4{q:List Sp}{X:List Pn}(h:Y4 c f q X p [L,L'])(hL:Ry L'=.cj->L'=[])(vg:0<=f.t/\f.t<=16777216)(time:Int)(G:List aM) :
  go (aX F) US ⟨[(2,V.int .i64 time),(13,.bn 13 0),(14,.bn 14 0),(16,.bn 16 0),(18,gu q),(19,gf L),(20,Ry L'),(116,.slice none 2 (X.map Pn.row)),(117,V.int .i64 3),(118,V.int .i64 0)],(13,c.row)::(14,f.row)::(16,p.row)::Y6 L',[],G⟩
   (bk 2 (sq (aX F) (zz [zt 8 true] ⟨[8],[],[]⟩ .ret) (xX [.t 8 [none]] λv _=>v=.bool true))):=by
 refine go_loop (λi:Nat=>(⟨[(2,V.int .i64 time),(13,.bn 13 0),(14,.bn 14 0),(16,.bn 16 0),(18,gu q),(19,gf L),(20,Ge L'),(116,.slice none 2 (X.map Pn.row)),(117,V.int .i64 3),(118,V.int .i64 i)],(13,c.row)::(14,f.row)::(16,p.row)::Gg L',[],G⟩:St)) (λi=>i<=3) (λi=>3-i) 0 rfl (by simp[Ry,Ge,Gg,Y6,alZ]) (by omega) ?_
 rintro i hi;simp +contextual (disch:=omega) [-getElem?_pos,-List.length_eq_zero_iff,-Int.natCast_eq_zero,UR,Ge,Gg];refine bO (λh1=>?_) (λh1=>?_)
 case refine_2=>trivial
 have h1:i<3:=by omega
 obtain⟨hr,hf,hp,hx3,tN,YC,oR⟩:=h;obtain⟨wi,sn⟩:=tN i h1;have Y7:=bc (l:=X) (i:=i) (by omega)
 generalize nth X i=x at *;have k1:=Yj c hr x;have k2:=Yk c hr x;have k3:=Yq x p wi sn;have k4:=Rl x p wi sn;generalize decide (x=p)=bq at k3 k4;have hm:=PG (v:=time) (n:=8) (by omega) (by omega)
 have k5:=PF (n:=time) (m:=8) (by omega)
 simp +contextual (disch:=omega) [-getElem?_pos,-List.length_eq_zero_iff,-Int.natCast_eq_zero,Y7,k1,k2,k3,k4,k5];obtain⟨T,hT⟩:∃T:List Int,T=[time,f.t+AG time 8]:=⟨_,rfl⟩;have LC:T.length=2:=by rw[hT];rfl
 refine go_loop (λj:Nat=>(⟨[(2,V.int .i64 time),(13,.bn 13 0),(14,.bn 14 0),(16,.bn 16 0),(18,gu q),(19,gf L),(20,Ge L'),(22,.bn 22 0),(116,.slice none 2 (X.map Pn.row)),(117,V.int .i64 3),(118,V.int .i64 i),(144,ints T),(145,V.int .i64 2),(146,V.int .i64 j)],(13,c.row)::(14,f.row)::(16,p.row)::(22,x.row)::Gg L',[],G⟩:St)) (λj=>j<=2) (λj=>2-j) 0 rfl (by simp[hT]) (by omega) ?_
 rintro j hj;simp +contextual (disch:=omega) [-getElem?_pos,-List.length_eq_zero_iff,-Int.natCast_eq_zero,UP,Ge,Gg];refine bO (λh2=>?_) (λh2=>?_)
 .have h2:j<2:=by omega
  have Y8:=dQ (l:=T) (i:=j) (by omega)
  obtain⟨kk,a1⟩:∃kk,∀G,aX F 17 [pn x,i64 (nth T j)] G=some (.tuple [.slice kk 1 ((mj x (nth T j)).map λn=>[i64 n]),.bool (oT x (nth T j))],G):=alx x (nth T j) sn;have a2:=alw x (nth T j) sn;have a3:=YQ (mj x (nth T j)) (mj x (nth T j)) (alW sn);rw[fJ rfl]at a3;generalize mj x (nth T j)=A at *;generalize oT x (nth T j)=B at *;generalize nth T j=tt at *;simp +contextual (disch:=omega) [-getElem?_pos,-List.length_eq_zero_iff,-Int.natCast_eq_zero,Y8,a1,a2,a3];exact bB' (j+1)
 clear k1 k2 k3 k4 k5 hm hT LC
 obtain⟨a,b,e,t1,t2,t3,t4,t5,t6,G1,G2,r1,r2,r3,r4⟩:=(alU hr hf x q hp).w;simp +contextual (disch:=omega) [-getElem?_pos,-List.length_eq_zero_iff,-Int.natCast_eq_zero,r1,r2,r3,r4];have Y9:(V.slice none 1 []:V)=gf []:=rfl;obtain⟨Y,hY⟩:∃Y:List (List (List Cd)),Y=[L,L']:=⟨_,rfl⟩;have hYl:Y.length=2:=by rw[hY];rfl
 have oR:∀i,i<2->(nth Y i).length<=1000:=λi hi=>by rw[hY];exact oR i hi
 have MS:V.slice none 1 [[V.slice none 1 (L.map λl=>[dB l])],[alY L']]=.slice none 1 (Y.map λL=>[gf L]):=by
  rw[hY]
  first|rfl|(rw[hL rfl];rfl)
 rw[show(V.slice none 1 [[V.slice none 1 (L.map λl=>[dB l])],[alY L']])=_ from MS]
 clear MS r1 r2 r3 r4 Y9
 refine go_loop (λj:Nat=>(⟨[(2,V.int .i64 time),(13,.bn 13 0),(14,.bn 14 0),(16,.bn 16 0),(18,gu q),(19,gf L),(20,Ge L'),(22,.bn 22 0),(116,.slice none 2 (X.map Pn.row)),(117,V.int .i64 3),(118,V.int .i64 i),(207,.slice none 1 (Y.map λL=>[gf L])),(208,V.int .i64 2),(209,V.int .i64 j)],(13,c.row)::(14,f.row)::(16,p.row)::(22,x.row)::Gg L',[],G⟩:St)) (λj=>j<=2) (λj=>2-j) 0 rfl (by simp) (by omega) ?_
 rintro j hj;simp +contextual (disch:=omega) [-getElem?_pos,-List.length_eq_zero_iff,-Int.natCast_eq_zero,UQ,Ge,Gg];refine bO (λh3=>?_) (λh3=>?_)
 case refine_2=>exact bB' (i+1)
 have h3:j<2:=by omega
 have Za:=bc (l:=Y) (i:=j) (by omega)
 have I3:=oR j h3;generalize nth Y j=D at *;obtain⟨q1,u1,e1,s1,s2,s3,s4,G3,m1,m2,m3,m4⟩:=(mkB hr hf x q I3 hp).w;obtain⟨u2,e2,s5,s6,G4,w1,w2,w3⟩:=(alT hr hf x q I3 hp).w;simp +contextual (disch:=omega) [-getElem?_pos,-List.length_eq_zero_iff,-Int.natCast_eq_zero,Za,m1,m2,m3,m4,w1,w2,w3];exact bB' (j+1)
set_option maxHeartbeats 4000000 in
def aC5(hl:l.length<=9223372036854775807)(raw:Pn)(aC6:raw.l.length<=17592186044416/\∀j,j<raw.l.length->(nth raw.l j).length<=17592186044416)(time:Int)(more:List Cd)(aI7:more.length<=17592186044416) :
  ∃G',aX F 3 [ints l,pn raw,i64 time,dB more] []=some (.bool true,G'):=by
 suffices h:gz (aX F) 3 [ints l,pn raw,i64 time,dB more] [] λv _=>v=.bool true by
  obtain⟨_,G,h,rfl⟩:=h;exact⟨G,h⟩
 refine gN rfl rfl ?_;obtain⟨Gs,aC7⟩:=aAF;obtain⟨sd,pJ⟩:=aC6;simp +contextual (disch:=omega) [-getElem?_pos,-List.length_eq_zero_iff,-Int.natCast_eq_zero,acV,aC7];refine go_loop (λp:Nat×Int=>aqr (ints l) time (dB more) p.2 (og raw.l) raw.l.length p.1 raw.row []) (λp=>p.1<=raw.l.length) (λp=>raw.l.length-p.1) (0,(raw.l.length:Int)+more.length) rfl (by simp) (by simp) ?_
 rintro⟨i,N⟩ hi;simp only at hi;simp +contextual (disch:=omega) [-getElem?_pos,-List.length_eq_zero_iff,-Int.natCast_eq_zero,acU];refine bO (λh1=>?_) (λh1=>?_)
 .have h1:i<raw.l.length:=by omega
  simp +contextual (disch:=omega) [-getElem?_pos,-List.length_eq_zero_iff,-Int.natCast_eq_zero,bc (l:=raw.l)];exact bB (i+1,IntKind.i64.wrap (N+(nth raw.l i).length)) (by simp) (by simp only;omega) (by simp only;omega)
 clear h1 hi
 by_cases h1:l.length<=500
 case neg=>simp +contextual (disch:=omega) [-getElem?_pos,-List.length_eq_zero_iff,-Int.natCast_eq_zero,PH,h1]
 by_cases hN:600<N
 .simp +contextual (disch:=omega) [-getElem?_pos,-List.length_eq_zero_iff,-Int.natCast_eq_zero,PH,h1,hN]
 obtain⟨c,f,k1,n1,iD,Rz,kh,_⟩:=aAd (l:=l) (k:=0) ⟨by omega,hl⟩
 have hz:=Rz.nI;have cv:=oh hz;have Ml:=Rz.small;have hn6:=Rz.n;have YN:=Rz.s;have kS:=(oj cv.k).n;have hfs:=IN cv.k kh;obtain⟨m,k2,n2,fu,hm⟩:=fG iD 6 (by omega)
 obtain⟨pl,k3,n3,l9,nZ,aC9⟩:=alR fu (c:=c) (by omega) (by omega) f.t (n:=m.toNat) (by omega)
 have LF:=PG (v:=time) (n:=2) (by omega) (by omega)
 have c2:=PF (n:=time) (m:=2) (by omega)
 obtain⟨pb,k4,n4,tl,hpb,aDa⟩:=alR l9 (c:=c) (by omega) (by omega) (f.t+AG time 2) (n:=m.toNat) (by omega)
 obtain⟨q,k5,n5,AL,hq,hqs⟩:=aAg tl (c:=c) (by omega) (by omega) (n:=m.toNat) (by omega)
 obtain⟨L,k6,n6,BU,hL,hL6⟩:=aCR AL (c:=c) (by omega)
 rw[Zi hm.1]at n3 n4 n5;have vg:=kh.1;have bE:∀L',L'.length<=1000->Y4 c f q [raw,⟨f.t,pl⟩,⟨f.t+AG time 2,pb⟩] ⟨f.t,pl⟩ [L,L']:=λL' hL'=>by
  refine⟨Ml,hfs,λi hi=>?_,rfl,λi hi=>?_,rfl,λi hi=>?_⟩
  .obtain⟨e1,e2,_⟩:=(hqs i (by omega)).1
   omega
  .rcases i with _|_|_|i
   .exact⟨sd,pJ⟩
   .exact⟨by show pl.length<=_;omega,λj hj=>iO (aC9 j hj) (by omega)⟩
   .exact⟨by show pb.length<=_;omega,λj hj=>iO (aDa j hj) (by omega)⟩
   .omega
  .rcases i with _|_|i
   .show L.length<=1000
    omega
   .exact hL'
   .omega
 by_cases RA:L=[]
 .subst RA
  have hp:=aCZ (bE [] (by simp)) (λ_=>rfl) vg time [dk l k6]
  simp only[Rx,Y5,nT,Gp]at hp
  clear bE
  simp +contextual (disch:=omega) [-getElem?_pos,-List.length_eq_zero_iff,-Int.natCast_eq_zero,PH,h1,hN,ahy,n1,n2,n3,n4,n5,n6,c2];exact hp
 .have hLp:0<L.length:=nS.2 RA
  obtain⟨v,k7,n7,PR,hv⟩:=fG BU L.length (by omega)
  have hLe:L.isEmpty=false:=by cases L with
   |nil=>exact absurd rfl RA
   |cons=>rfl
  have hLf:(L.map λl=>[dB l]).flatten=L.map dB:=by
   clear bE n6 hL hL6 n7 hv hLe RA hLp
   induction L with
   |nil=>rfl
   |cons l L ih=>simp only[nT,vn,ih];rfl
  simp +contextual (disch:=omega) [-getElem?_pos,-List.length_eq_zero_iff,-Int.natCast_eq_zero,PH,h1,hN,ahy,n1,n2,n3,n4,n5,n6,c2,n7,hLe,hLf,hLp];have hp:=aC4 (bE (L.set v.toNat more) (by simp;omega)) (λh=>by cases h) vg time [dk l k7]
  simp only[Ry,Y6,Na,qI]at hp;exact hp
end
