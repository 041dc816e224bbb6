/- Parts of the proof, joined: Rof1, Rof2, Rof5. -/
import Derived.Test.YtocclbnghhaejaaGreatDg
import Derived.Test.YtocclbnghhaejaaGreatDh
namespace Go.Proofs.YtocclbnghhaejaaGreat
set_option linter.all false
open Go.Vm
attribute [local simp] lQ lR kP lP
structure Sc where
 w:Int
 f:List Int
abbrev Sc.row(x:Sc):List V:=[i64 x.w,ints x.f]
instance:Inhabited Sc:=⟨⟨0,[]⟩⟩
abbrev j7(l:List Sc):V:=.slice none 2 (l.map Sc.row)
structure mD where
 t:Int
 s:List Sc
 w:Bool
abbrev mD.row(x:mD):List V:=[i64 x.t,j7 x.s,.bool x.w]
abbrev yA(x:mD):V:=.agg x.row
noncomputable def uQ(x:Sc)(n:Nat):Int:=if 1≤x.w∧x.w≤10000 then (if x.f.length=0∨x.f.length≠n then 3 else if 1000<n then 10 else if eJ x.f 1073741824 then 0 else 1) else 1
noncomputable def oX(b:mD):Int:=if 0≤b.t∧b.t≤16777216 then (if b.s.length=0 then 3 else if 50<b.s.length then 10 else dB (fun i=>uQ (nth b.s i) (nth b.s 0).f.length) b.s.length 0) else 6
theorem aAM(n:Int)(G:List aP):aX F 181 [i64 n] G=some (.bool (!decide (0≤n∧n≤1073741824)),G) :=
 bM rfl rfl (by
  by_cases h1:0≤n
  ·by_cases h2:n≤1073741824
   ·simp +contextual (disch:=omega) [-getElem?_pos,-List.length_eq_zero_iff,-Int.natCast_eq_zero,wrap64,afS,dC,h1,h2]
   ·simp +contextual (disch:=omega) [-getElem?_pos,-List.length_eq_zero_iff,-Int.natCast_eq_zero,wrap64,afS,dC,h1,h2]
  ·simp +contextual (disch:=omega) [-getElem?_pos,-List.length_eq_zero_iff,-Int.natCast_eq_zero,wrap64,afS,dC,h1])
theorem aAN(x:Sc)(n:Nat)(G:List aP):aX F 148 [.agg x.row,i64 n] G=some (i64 (uQ x n),G) :=
 bM rfl rfl (by
  generalize hW:uQ x n=W;unfold uQ at hW;by_cases h1:1≤x.w∧x.w≤10000
  case neg =>
   rw[if_neg h1]at hW;rcases (by omega:x.w<1∨(¬x.w<1∧10000<x.w)) with a | ⟨a,b⟩
   ·simp +contextual (disch:=omega) [-getElem?_pos,-List.length_eq_zero_iff,-Int.natCast_eq_zero,wrap64,IC,a]
    exact hW
   ·simp +contextual (disch:=omega) [-getElem?_pos,-List.length_eq_zero_iff,-Int.natCast_eq_zero,wrap64,IC,a,b]
    exact hW
  rw[if_pos h1]at hW;have a:¬ x.w<1:=by omega
  have b:¬ 10000<x.w:=by omega
  by_cases h2:x.f.length=0
  ·rw[if_pos (.inl h2)]at hW
   have mg:(x.f.length:Int)=0:=by omega
   simp +contextual (disch:=omega) [-getElem?_pos,-List.length_eq_zero_iff,-Int.natCast_eq_zero,wrap64,IC,a,b,mg];exact hW
  have mg:¬ (x.f.length:Int)=0:=by omega
  by_cases h3:x.f.length=n
  case neg =>
   rw[if_pos (.inr h3)]at hW;have gU:¬ (x.f.length:Int)=n:=by omega
   simp +contextual (disch:=omega) [-getElem?_pos,-List.length_eq_zero_iff,-Int.natCast_eq_zero,wrap64,IC,a,b,mg,gU];exact hW
  rw[if_neg (by omega)]at hW
  subst h3;by_cases h4:1000<x.f.length
  ·rw[if_pos h4]at hW
   have Qv:(1000:Int)<x.f.length:=by omega
   simp +contextual (disch:=omega) [-getElem?_pos,-List.length_eq_zero_iff,-Int.natCast_eq_zero,wrap64,IC,a,b,mg,Qv];exact hW
  rw[if_neg h4]at hW;have Qv:¬ (1000:Int)<x.f.length:=by omega
  have hc:=PF x.f (by omega) (fun n => !decide (0≤n∧n≤1073741824)) 181 G (fun n=>aAM n G)
  rw[aaQ]at hc;by_cases h5:eJ x.f 1073741824
  ·rw[if_pos h5]at hW
   simp +contextual (disch:=omega) [-getElem?_pos,-List.length_eq_zero_iff,-Int.natCast_eq_zero,wrap64,IC,a,b,mg,Qv,hc,h5];exact hW
  ·rw[if_neg h5]at hW
   simp +contextual (disch:=omega) [-getElem?_pos,-List.length_eq_zero_iff,-Int.natCast_eq_zero,wrap64,IC,a,b,mg,Qv,hc,h5];exact hW)
theorem aAO(x:mD)(G:List aP):aX F 98 [yA x] G=some (i64 (oX x),G) :=
 bM rfl rfl (by
  generalize hW:oX x=W;unfold oX at hW;by_cases h1:0≤x.t∧x.t≤16777216
  case neg =>
   rw[if_neg h1]at hW;by_cases a:0≤x.t
   ·have b:¬ x.t≤16777216:=by omega
    simp +contextual (disch:=omega) [-getElem?_pos,-List.length_eq_zero_iff,-Int.natCast_eq_zero,wrap64,aaf,dC,a,b];exact hW
   ·simp +contextual (disch:=omega) [-getElem?_pos,-List.length_eq_zero_iff,-Int.natCast_eq_zero,wrap64,aaf,dC,a]
    exact hW
  rw[if_pos h1]at hW;obtain⟨a,b⟩:=h1;by_cases h2:x.s.length=0
  ·rw[if_pos h2]at hW
   have mg:(x.s.length:Int)=0:=by omega
   simp +contextual (disch:=omega) [-getElem?_pos,-List.length_eq_zero_iff,-Int.natCast_eq_zero,wrap64,aaf,dC,a,b,mg];exact hW
  rw[if_neg h2]at hW;have mg:¬ (x.s.length:Int)=0:=by omega
  by_cases h3:50<x.s.length
  ·rw[if_pos h3]at hW
   have gU:(50:Int)<x.s.length:=by omega
   simp +contextual (disch:=omega) [-getElem?_pos,-List.length_eq_zero_iff,-Int.natCast_eq_zero,wrap64,aaf,dC,a,b,mg,gU];exact hW
  rw[if_neg h3]at hW;have gU:¬ (50:Int)<x.s.length:=by omega
  simp +contextual (disch:=omega) [-getElem?_pos,-List.length_eq_zero_iff,-Int.natCast_eq_zero,wrap64,aaf,dC,a,b,mg,gU];refine go_loop (fun i:Nat=>azb (j7 x.s) x.s.length i x.row G) (fun i=>i≤x.s.length∧dB (fun i=>uQ (nth x.s i) (nth x.s 0).f.length) (x.s.length-i) i=W) (fun i=>x.s.length-i) 0 rfl (by simp) ⟨by omega,hW⟩ ?_
  rintro i ⟨hi,hq⟩;simp +contextual (disch:=omega) [-getElem?_pos,-List.length_eq_zero_iff,-Int.natCast_eq_zero,wrap64,auP];refine bE (fun h5=>?_) (fun h5=>?_)
  ·have h5:i<x.s.length:=by omega
   have h0:0<x.s.length:=by omega
   rw[kB h5]at hq;have hs:=aAN (nth x.s i) (nth x.s 0).f.length [];by_cases h6:uQ (nth x.s i) (nth x.s 0).f.length=0
   ·rw[if_pos h6]at hq
    simp +contextual (disch:=omega) [-getElem?_pos,-List.length_eq_zero_iff,-Int.natCast_eq_zero,wrap64,aW (l:=x.s),hs,h6];exact bF (i+1) (by simp) ⟨by omega,hq⟩ (by omega)
   ·rw[if_neg h6]at hq
    simp +contextual (disch:=omega) [-getElem?_pos,-List.length_eq_zero_iff,-Int.natCast_eq_zero,wrap64,aW (l:=x.s),hs,h6];exact hq
  ·obtain rfl:i=x.s.length:=by omega
   rw[mE]at hq;exact hq)
theorem awE(x:mD)(G:List aP):aX F 52 [yA x] G=some (i64 (oX x),G) :=
 bM rfl rfl (by
  generalize hW:oX x=W;unfold oX at hW;by_cases h1:0≤x.t∧x.t≤16777216
  case neg =>
   rw[if_neg h1]at hW;by_cases a:0≤x.t
   ·have b:¬ x.t≤16777216:=by omega
    simp +contextual (disch:=omega) [-getElem?_pos,-List.length_eq_zero_iff,-Int.natCast_eq_zero,wrap64,ZU,cT,a,b];exact hW
   ·simp +contextual (disch:=omega) [-getElem?_pos,-List.length_eq_zero_iff,-Int.natCast_eq_zero,wrap64,ZU,cT,a]
    exact hW
  rw[if_pos h1]at hW;obtain⟨a,b⟩:=h1;by_cases h2:x.s.length=0
  ·rw[if_pos h2]at hW
   have mg:(x.s.length:Int)=0:=by omega
   simp +contextual (disch:=omega) [-getElem?_pos,-List.length_eq_zero_iff,-Int.natCast_eq_zero,wrap64,ZU,cT,a,b,mg];exact hW
  rw[if_neg h2]at hW;have mg:¬ (x.s.length:Int)=0:=by omega
  by_cases h3:50<x.s.length
  ·rw[if_pos h3]at hW
   have gU:(50:Int)<x.s.length:=by omega
   simp +contextual (disch:=omega) [-getElem?_pos,-List.length_eq_zero_iff,-Int.natCast_eq_zero,wrap64,ZU,cT,a,b,mg,gU];exact hW
  rw[if_neg h3]at hW;have gU:¬ (50:Int)<x.s.length:=by omega
  simp +contextual (disch:=omega) [-getElem?_pos,-List.length_eq_zero_iff,-Int.natCast_eq_zero,wrap64,ZU,cT,a,b,mg,gU];refine go_loop (fun i:Nat=>ay1 (j7 x.s) x.s.length i x.row G) (fun i=>i≤x.s.length∧dB (fun i=>uQ (nth x.s i) (nth x.s 0).f.length) (x.s.length-i) i=W) (fun i=>x.s.length-i) 0 rfl (by simp) ⟨by omega,hW⟩ ?_
  rintro i ⟨hi,hq⟩;simp +contextual (disch:=omega) [-getElem?_pos,-List.length_eq_zero_iff,-Int.natCast_eq_zero,wrap64,auI];refine bE (fun h5=>?_) (fun h5=>?_)
  case refine_2 =>
   obtain rfl:i=x.s.length:=by omega
   rw[mE]at hq;exact hq
  have h5:i<x.s.length:=by omega
  have h0:0<x.s.length:=by omega
  rw[kB h5]at hq;by_cases g1:1≤(nth x.s i).w∧(nth x.s i).w≤10000
  case neg =>
   have e:uQ (nth x.s i) (nth x.s 0).f.length=1:=by unfold uQ;rw[if_neg g1]
   rw[e,if_neg (by omega)]at hq
   rcases (by omega:(nth x.s i).w<1∨(¬(nth x.s i).w<1∧10000<(nth x.s i).w)) with c | ⟨c,d⟩
   ·simp +contextual (disch:=omega) [-getElem?_pos,-List.length_eq_zero_iff,-Int.natCast_eq_zero,wrap64,aW (l:=x.s),c]
    exact hq
   ·simp +contextual (disch:=omega) [-getElem?_pos,-List.length_eq_zero_iff,-Int.natCast_eq_zero,wrap64,aW (l:=x.s),c,d]
    exact hq
  have c:¬ (nth x.s i).w<1:=by omega
  have d:¬ 10000<(nth x.s i).w:=by omega
  by_cases g2:(nth x.s i).f.length=0
  ·have e:uQ (nth x.s i) (nth x.s 0).f.length=3:=by unfold uQ;rw[if_pos g1,if_pos (.inl g2)]
   rw[e,if_neg (by omega)]at hq
   have g2':((nth x.s i).f.length:Int)=0:=by omega
   simp +contextual (disch:=omega) [-getElem?_pos,-List.length_eq_zero_iff,-Int.natCast_eq_zero,wrap64,aW (l:=x.s),c,d,g2'];exact hq
  have g2':¬ ((nth x.s i).f.length:Int)=0:=by omega
  by_cases g3:(nth x.s i).f.length=(nth x.s 0).f.length
  case neg =>
   have e:uQ (nth x.s i) (nth x.s 0).f.length=3:=by unfold uQ;rw[if_pos g1,if_pos (.inr g3)]
   rw[e,if_neg (by omega)]at hq
   have g3':¬ ((nth x.s i).f.length:Int)=(nth x.s 0).f.length:=by omega
   simp +contextual (disch:=omega) [-getElem?_pos,-List.length_eq_zero_iff,-Int.natCast_eq_zero,wrap64,aW (l:=x.s),c,d,g2',g3'];exact hq
  have e:uQ (nth x.s i) (nth x.s 0).f.length=if 1000<(nth x.s 0).f.length then 10 else if eJ (nth x.s i).f 1073741824 then 0 else 1:=by
   unfold uQ;rw[if_pos g1,if_neg (fun g=>g.elim g2 (fun g=>g g3))]
  rw[e]at hq;obtain⟨m,gb⟩:∃m,(nth x.s 0).f.length=m:=⟨_,rfl⟩;have ga:(nth x.s i).f.length=m:=by omega
  have m0:¬ (m:Int)=0:=by omega
  clear e g3
  by_cases g4:1000<m
  ·rw[gb,if_pos g4,if_neg (by omega)]at hq
   have g4':(1000:Int)<m:=by omega
   simp +contextual (disch:=omega) [-getElem?_pos,-List.length_eq_zero_iff,-Int.natCast_eq_zero,wrap64,aW (l:=x.s),c,d,ga,gb,m0,g4'];exact hq
  rw[gb,if_neg g4]at hq;have g4':¬ (1000:Int)<m:=by omega
  simp +contextual (disch:=omega) [-getElem?_pos,-List.length_eq_zero_iff,-Int.natCast_eq_zero,wrap64,aW (l:=x.s),c,d,ga,gb,m0,g4'];generalize hY:nth x.s i=Y at *;refine go_loop (fun j:Nat=>ayZ (j7 x.s) x.s.length i (ints Y.f) m j x.row G) (fun j=>j≤m∧∀k,k<j→0≤nth Y.f k∧nth Y.f k≤1073741824) (fun j=>m-j) 0 rfl (by simp) ⟨by omega,by omega⟩ ?_
  rintro j ⟨hj,hk⟩;simp +contextual (disch:=omega) [-getElem?_pos,-List.length_eq_zero_iff,-Int.natCast_eq_zero,wrap64,auH];refine bE (fun h7=>?_) (fun h7=>?_)
  ·have h7:j<Y.f.length:=by omega
   by_cases g:0≤nth Y.f j∧nth Y.f j≤1073741824
   ·simp +contextual (disch:=omega) [-getElem?_pos,-List.length_eq_zero_iff,-Int.natCast_eq_zero,wrap64,dj (l:=Y.f),cT,g.1,g.2]
    refine bF (j+1) (by simp) ⟨by omega,fun k mP=>?_⟩ (by omega)
    rcases (by omega:k<j∨k=j) with h|rfl
    ·exact hk k h
    ·exact g
   ·rw[if_neg (fun q:eJ Y.f 1073741824=>g (q j h7)),if_neg (by omega)]at hq
    by_cases e1:0≤nth Y.f j
    ·have e2:¬ nth Y.f j≤1073741824:=by omega
     simp +contextual (disch:=omega) [-getElem?_pos,-List.length_eq_zero_iff,-Int.natCast_eq_zero,wrap64,dj (l:=Y.f),cT,e1,e2];exact hq
    ·simp +contextual (disch:=omega) [-getElem?_pos,-List.length_eq_zero_iff,-Int.natCast_eq_zero,wrap64,dj (l:=Y.f),cT,e1]
     exact hq
  ·obtain rfl:j=m:=by omega
   rw[if_pos (show eJ Y.f 1073741824 from fun k hk3=>hk k (by omega)),if_pos rfl]at hq
   exact bF (i+1) (by simp) ⟨by omega,hq⟩ (by omega))
structure Bv(b:mD):Prop where
 jo:0<b.s.length∧b.s.length≤50
 s:∀i,i<b.s.length→(1≤(nth b.s i).w∧(nth b.s i).w≤10000)∧(nth b.s i).f.length=(nth b.s 0).f.length
 n:0<(nth b.s 0).f.length∧(nth b.s 0).f.length≤1000
theorem adE{b:mD}(h:oX b=0):Bv b:=by
 unfold oX at h;split at h
 ·split at h
  ·cases h
  ·split at h
   ·cases h
   ·have key:∀i,i<b.s.length→(1≤(nth b.s i).w∧(nth b.s i).w≤10000)∧((nth b.s i).f.length≠0∧(nth b.s i).f.length=(nth b.s 0).f.length)∧¬ 1000<(nth b.s 0).f.length:=fun i hi=>by
     have:=rU h i (by omega) (by omega)
     unfold uQ at this;split at this
     ·split at this
      ·cases this
      ·split at this
       ·cases this
       ·refine⟨by assumption,by omega,by assumption⟩
     ·cases this
    have k0:=key 0 (by omega)
    exact⟨by omega,fun i hi=>⟨(key i hi).1,(key i hi).2.1.2⟩,by omega⟩
 ·cases h
theorem aot{L:bw}{d g:Nat}{f:FuncId}{cap:List bq}{w:Bool}{os:List bH}{keep:cY}{k:cz}{S:St} :
  dW L (⟨some d,.uJ f cap,some (g,w)⟩::os) keep k S=kc w (Go.Vm.look g S.env) (dW L (⟨some d,.uJ f cap,none⟩::os) keep k S) (dW L os keep k (S.put (some d) .undef)):=by
 rw[iD,iD];simp only[bH.run];rcases Go.Vm.look g S.env with _|v
 ·simp[cJ,kc]
 ·cases v with
  |bool b=>simp only[kc];cases b==w<;>simp
  |undef=>simp[kc]
  |_=>simp[cJ,kc]
def tI(k:Nat)(v:Int)(p:Sp):Sp:=⟨p.a.set k v,p.b,p.c⟩
def ld(k:Nat)(base:List Sp)(x:Sc):Wd:=⟨x.w,(List.range base.length).map fun i=>tI k (nth x.f i) (nth base i)⟩
def tW(n:Int)(base:List Sp):Bool:=base.any fun p => !decide ((p.a.length:Int)=n)
noncomputable def Hf(c:Cs)(b:mD)(node:Int)(base:List Sp):Int :=
 if ew c≠0 then ew c else if oX b≠0 then oX b else if b.w=true then 9 else if node<0∨c.r.n≤node then 41
 else if base.length≠(nth b.s 0).f.length then 3 else if tW c.r.n base=true then 3 else 0
noncomputable def Ho(t:Option Nat)(c:Cs)(b:mD)(node:Int)(base:List Sp):V :=
 .tuple (if Hf c b node base=0 then [.slice t 2 ((b.s.map (ld node.toNat base)).map Wd.row),i64 0] else [.slice (some 0) 2 [],i64 (Hf c b node base)])
theorem awF{n:Int}{base:List Sp}(h:tW n base=false):∀i,i<base.length→((nth base i).a.length:Int)=n:=fun i hi=>by
 unfold tW at h;rw[List.any_eq_false]at h;have:=h _ (oK hi);simpa using this
theorem aAR(c:Cs)(p:Sp)(G:List aP)(hG:G[0]?=some (.cells c.row)):aX F 100 [sv p,.bG 0 0] G=some (.bool (!decide ((p.a.length:Int)=c.r.n)),G) :=
 bM rfl rfl (by simp +contextual (disch:=omega) [-getElem?_pos,-List.length_eq_zero_iff,-Int.natCast_eq_zero,wrap64,auR,hG])
theorem aAS(c:Cs)(l:List Sp)(hl:l.length≤1000)(G:List aP)(hG:G[0]?=some (.cells c.row)) :
  ∃k:Int,(decide (0≤k)=tW c.r.n l)∧aX F 149 [lW l,.fn 100 [.bG 0 0]] G=some (i64 k,G):=by
 suffices hh:∀Q:V→List aP→Prop,(∀k:Int,decide (0≤k)=tW c.r.n l→Q (i64 k) G)→gy (aX F) 149 [lW l,.fn 100 [.bG 0 0]] G Q by
  obtain⟨_,G',h,k,h1,rfl,rfl⟩:=hh (fun v G'=>∃k:Int,decide (0≤k)=tW c.r.n l∧v=i64 k∧G'=G) fun k hk=>⟨k,hk,rfl,rfl⟩;exact⟨k,h1,h⟩
 intro Q hQ;refine gS rfl rfl ?_;simp (disch:=omega) [-getElem?_pos,wrap64,au9];refine go_loop (fun i:Nat=>azo (lW l) (.fn 100 [.bG 0 0]) l.length i G) (fun i=>i≤l.length∧∀x∈l.take i,(x.a.length:Int)=c.r.n) (fun i=>l.length-i) 0 rfl (by simp) ⟨by omega,by simp⟩ ?_
 rintro i ⟨hi,hp⟩;simp (disch:=omega) [-getElem?_pos,wrap64,au8];refine bE (fun h5=>?_) (fun h5=>?_)
 ·have h5:i<l.length:=by omega
  have hf:=aAR c (nth l i) G hG;simp (disch:=omega) [-getElem?_pos,wrap64,aW (l:=l),hf];by_cases h6:((nth l i).a.length:Int)=c.r.n
  ·simp (disch:=omega) [-getElem?_pos,wrap64,h6]
   refine bF (i+1) (by simp) ⟨by omega,?_⟩ (by omega)
   intro x hx;rw[jI h5]at hx;rcases List.mem_append.1 hx with hx|hx
   ·exact hp x hx
   ·rw[List.mem_singleton.1 hx];exact h6
  ·simp (disch:=omega) [-getElem?_pos,wrap64,h6]
   refine hQ _ ?_;rw[decide_eq_true (by omega)]
   exact(List.any_eq_true.2 ⟨_,oK h5,by simpa using h6⟩).symm
 ·obtain rfl:i=l.length:=by omega
  refine hQ _ ?_;rw[List.take_length]at hp;rw[show tW c.r.n l=false from List.any_eq_false.2 fun x hx=>by simp[hp x hx]]
  rfl
theorem aAT(c:Cs)(l:List Sp)(hl:l.length≤1000)(G:List aP)(hG:G[0]?=some (.cells c.row)) :
  aX F 99 [lW l,.fn 100 [.bG 0 0]] G=some (.bool (tW c.r.n l),G) :=
 bM rfl rfl (by
  obtain⟨k,h1,h2⟩:=aAS c l hl G hG;simp[wrap64,auQ,h2];exact h1)
theorem aAU{i k g:Nat}{p:Sp}{x:Sc}{G:List aP}(hn:G[1]?=some (.cells [i64 k]))(hx:G[g]?=some (.cells x.row))(hi:i<x.f.length)(hk:k<p.a.length)(hb:pq p) :
  aX F 104 [i64 i,sv p,.bG g 0,.bG 1 0] G=some (sv (tI k (nth x.f i) p),G) :=
 bM rfl rfl (by
  obtain⟨a,b,d⟩:=p;obtain⟨b1,b2,b3⟩:=hb;simp only at b1 b2 b3 hk;have ha:=aav a b1 [];have hbb:=aav b b2 [];have Dd:=aav d b3 [];have cg:a≠[]:=by intro e;rw[e]at hk;simp at hk
  have gM:0<a.length:=by omega
  have hO:=fun id t=>aon (id:=id) (t:=t) cg;have jL:kr [none] (chunks 1 (dM (a.set k (nth x.f i))) 0 a.length)=some ((a.set k (nth x.f i)).map fun n=>[V.int .i64 n]):=MD (by simp)
  simp +contextual (disch:=omega) [-getElem?_pos,-List.length_eq_zero_iff,-Int.natCast_eq_zero,wrap64,auX,ha,hbb,Dd,hO,hn,hx,dj (l:=x.f),tI,gM,lx,jL])
theorem aAW{k g:Nat}{base:List Sp}{x:Sc}{G:List aP}(hn:G[1]?=some (.cells [i64 k]))(hx:G[g]?=some (.cells x.row))(hl:base.length≤1000)(hi:base.length≤x.f.length)(hk:∀i,i<base.length→k<(nth base i).a.length)(hb:∀p∈base,pq p) :
  aX F 103 [lW base,.fn 104 [.bG g 0,.bG 1 0]] G=some (Qw (ld k base x).s,G) :=
 bM rfl rfl (by
  simp +contextual (disch:=omega) [-getElem?_pos,-List.length_eq_zero_iff,-Int.natCast_eq_zero,wrap64,auW];refine go_loop (fun i:Nat=>azf (.fn 104 [.bG g 0,.bG 1 0]) (.slice (some 1021) 3 (((List.range i).map fun i=>tI k (nth x.f i) (nth base i)).map Sp.row)) (lW base) base.length i i G) (fun i=>i≤base.length) (fun i=>base.length-i) 0 rfl (by simp) (by omega) ?_
  intro i sd;simp +contextual (disch:=omega) [-getElem?_pos,-List.length_eq_zero_iff,-Int.natCast_eq_zero,wrap64,auV];refine bE (fun h=>?_) (fun h=>?_)
  ·have h:i<base.length:=by omega
   have hc:=aAU (p:=nth base i) hn hx (show i<x.f.length by omega) (hk i h) (hb _ (oK h))
   simp only[sv,Sp.row]at hc;simp +contextual (disch:=omega) [-getElem?_pos,-List.length_eq_zero_iff,-Int.natCast_eq_zero,wrap64,aW (l:=base),hc];exact bF (i+1) (by simp[List.range_succ]) (by omega) (by omega)
  ·obtain rfl:i=base.length:=by omega
   simp[ld])
def oG(c:Cs)(k:Nat)(base:List Sp)(l:List Sc):List aP:=.cells c.row::.cells [i64 k]::.cells [lW base]::l.map fun x=>aP.cells x.row
theorem aAX{c:Cs}{k:Nat}{base:List Sp}{l:List Sc}{x:Sc}(j:Int)(hl:base.length≤1000)(hi:base.length≤x.f.length)(hk:∀i,i<base.length→k<(nth base i).a.length)(hb:∀p∈base,pq p) :
  aX F 102 [i64 j,.agg x.row,.bG 2 0,.bG 1 0] (oG c k base l)=some (.agg (ld k base x).row,oG c k base (l++[x])) :=
 bM rfl rfl (by
  have e:oG c k base (l++[x])=oG c k base l++[.cells x.row]:=by simp[oG]
  have hm:=aAW (k:=k) (g:=(oG c k base l).length) (base:=base) (x:=x) (G:=oG c k base l++[.cells x.row]) (by simp[oG]) (by simp) hl hi hk hb
  have h2:(oG c k base l++[aP.cells x.row])[2]?=some (.cells [lW base]):=by simp[oG]
  have h3:(oG c k base l++[aP.cells x.row])[(oG c k base l).length]?=some (.cells x.row):=by simp
  rw[e];generalize oG c k base l=G at *;simp +contextual (disch:=omega) [-getElem?_pos,-List.length_eq_zero_iff,-Int.natCast_eq_zero,wrap64,auU,h2,h3,hm];simp[ld])
theorem aAY{c:Cs}{k:Nat}{base:List Sp}{s:List Sc}(hs:s.length≤1000)(hl:base.length≤1000)(hi:∀i,i<s.length→base.length≤(nth s i).f.length)(hk:∀i,i<base.length→k<(nth base i).a.length)(hb:∀p∈base,pq p) :
  aX F 101 [j7 s,.fn 102 [.bG 2 0,.bG 1 0]] (oG c k base [])=some (ahX (s.map (ld k base)),oG c k base s) :=
 bM rfl rfl (by
  simp +contextual (disch:=omega) [-getElem?_pos,-List.length_eq_zero_iff,-Int.natCast_eq_zero,wrap64,auT];refine go_loop (fun i:Nat=>azd (.fn 102 [.bG 2 0,.bG 1 0]) (.slice (some 1021) 2 (((s.take i).map (ld k base)).map Wd.row)) (j7 s) s.length i i (oG c k base (s.take i))) (fun i=>i≤s.length) (fun i=>s.length-i) 0 rfl (by simp) (by omega) ?_
  intro i sd;simp +contextual (disch:=omega) [-getElem?_pos,-List.length_eq_zero_iff,-Int.natCast_eq_zero,wrap64,auS];refine bE (fun h=>?_) (fun h=>?_)
  ·have h:i<s.length:=by omega
   have hc:=aAX (c:=c) (l:=s.take i) (x:=nth s i) i hl (hi i h) hk hb;have hT:List.take (i+1) (s.map (Wd.row∘ld k base))=List.take i (s.map (Wd.row∘ld k base))++[(ld k base (nth s i)).row]:=by rw[jI (by simpa using h),wF h];rfl
   rw[←jI h]at hc;simp +contextual (disch:=omega) [-getElem?_pos,-List.length_eq_zero_iff,-Int.natCast_eq_zero,wrap64,aW (l:=s),hc];exact bF (i+1) (by simp[hT]) (by omega) (by omega)
  ·obtain rfl:i=s.length:=by omega
   have hz:List.take s.length (s.map (Wd.row∘ld k base))=s.map (Wd.row∘ld k base):=List.take_of_length_le (by simp)
   simp[hz])
theorem awG{c:Cs}(hr:gW c.r)(b:mD)(node:Int)(base:List Sp)(hb:∀p∈base,pq p):∃G',aX F 49 [cs c,yA b,i64 node,lW base] []=some (Ho none c b node base,G'):=by
 suffices h:∀Q:V→List aP→Prop,(∀G',Q (Ho none c b node base) G')→gy (aX F) 49 [cs c,yA b,i64 node,lW base] [] Q by
  obtain⟨_,G',h,rfl⟩:=h (fun v _=>v=Ho none c b node base) fun _=>rfl;exact⟨G',h⟩
 intro Q hQ;refine gS rfl rfl ?_;unfold Ho Hf at hQ;have h0:=fun G=>GV c hr G;have h1:=fun G=>aAO b G;by_cases a1:ew c=0
 case neg =>
  simp only[if_pos a1,if_neg a1]at hQ;simp +contextual (disch:=omega) [-getElem?_pos,-List.length_eq_zero_iff,-Int.natCast_eq_zero,wrap64,EJ,h0,a1];exact hQ _
 simp only[if_neg (show ¬ ew c≠0 from fun g=>g a1)]at hQ;by_cases a2:oX b=0
 case neg =>
  simp only[if_pos a2,if_neg a2]at hQ;simp +contextual (disch:=omega) [-getElem?_pos,-List.length_eq_zero_iff,-Int.natCast_eq_zero,wrap64,EJ,h0,a1,h1,a2];exact hQ _
 simp only[if_neg (show ¬ oX b≠0 from fun g=>g a2)]at hQ;have bv:=adE a2;cases a3:b.w with
 |true =>
  have h1:∀G,aX F 98 [.agg [i64 b.t,j7 b.s,.bool true]] G=some (i64 (oX b),G):=fun G=>by
   have:=h1 G;simp only[yA,mD.row,a3]at this;exact this
  simp only[a3,if_true,if_neg (show ¬ (9:Int)=0 by omega)]at hQ
  simp +contextual (disch:=omega) [-getElem?_pos,-List.length_eq_zero_iff,-Int.natCast_eq_zero,wrap64,EJ,h0,a1,h1,a2,a3];exact hQ _
 |false =>
 have h1:∀G,aX F 98 [.agg [i64 b.t,j7 b.s,.bool false]] G=some (i64 (oX b),G):=fun G=>by
  have:=h1 G;simp only[yA,mD.row,a3]at this;exact this
 simp only[a3,if_neg (show ¬ (false=true) by simp)]at hQ
 by_cases a4:node<0∨c.r.n≤node
 ·simp only[if_pos a4,if_neg (show ¬ (41:Int)=0 by omega)]at hQ
  by_cases a5:node<0
  ·simp +contextual (disch:=omega) [-getElem?_pos,-List.length_eq_zero_iff,-Int.natCast_eq_zero,wrap64,EJ,h0,a1,h1,a2,a3,a5]
   exact hQ _
  ·have a6:c.r.n≤node:=by omega
   simp +contextual (disch:=omega) [-getElem?_pos,-List.length_eq_zero_iff,-Int.natCast_eq_zero,wrap64,EJ,h0,a1,h1,a2,a3,a5,a6];exact hQ _
 simp only[if_neg a4]at hQ;have a5:¬ node<0:=by omega
 have a6:¬ c.r.n≤node:=by omega
 obtain⟨k,rfl⟩:∃k:Nat,node=k:=⟨node.toNat,by omega⟩
 have f0:=bv.jo.1;by_cases a7:base.length=(nth b.s 0).f.length
 case neg =>
  simp only[if_pos a7,if_neg (show ¬ (3:Int)=0 by omega)]at hQ
  have HR:¬ (base.length:Int)=(nth b.s 0).f.length:=by omega
  simp +contextual (disch:=omega) [-getElem?_pos,-List.length_eq_zero_iff,-Int.natCast_eq_zero,wrap64,EJ,h0,a1,h1,a2,a3,a5,a6,aW (l:=b.s),HR,aot];exact hQ _
 simp only[if_neg (show ¬ base.length≠(nth b.s 0).f.length from fun g=>g a7)]at hQ;have HR:(base.length:Int)=(nth b.s 0).f.length:=by omega
 have hl:base.length≤1000:=by have:=bv.n;omega
 have BT:=aAT c base hl (oG c k base []) rfl;cases a8:tW c.r.n base with
 |true =>
  rw[a8]at BT;simp only[a8,if_true,if_neg (show ¬ (3:Int)=0 by omega)]at hQ
  simp only[oG,List.map_nil]at BT;simp +contextual (disch:=omega) [-getElem?_pos,-List.length_eq_zero_iff,-Int.natCast_eq_zero,wrap64,EJ,h0,a1,h1,a2,a3,a5,a6,aW (l:=b.s),HR,BT,aot];exact hQ _
 |false =>
  rw[a8]at BT;simp only[a8,if_neg (show ¬ (false=true) by simp),if_true]at hQ
  have hla:=awF a8;have hm:=aAY (c:=c) (k:=k) (base:=base) (s:=b.s) (by have:=bv.jo;omega) hl (fun i hi=>by have:=(bv.s i hi).2;omega) (fun i hi=>by have:=hla i hi;omega) hb
  generalize oG c k base b.s=G' at hm;simp only[oG,List.map_nil]at BT hm;simp +contextual (disch:=omega) [-getElem?_pos,-List.length_eq_zero_iff,-Int.natCast_eq_zero,wrap64,EJ,h0,a1,h1,a2,a3,a5,a6,aW (l:=b.s),HR,BT,hm,aot];have:=hQ G';simpa using this
abbrev aoD(b:mD):V:=.agg [i64 b.t,.slice (some 0) 2 (b.s.map Sc.row),.bool b.w]
theorem awH{l:List Int}{k:Nat}(hd:db l k):∃b k',aX F 47 [.bG 0 0] [dk l k]=some (aoD b,[dk l k'])∧db l k'∧0<b.s.length∧∀i,i<b.s.length→(nth b.s i).f.length≤7:=by
 suffices h:∀Q:V→List aP→Prop,(∀b k',db l k'→0<b.s.length→(∀i,i<b.s.length→(nth b.s i).f.length≤7)→Q (aoD b) [dk l k'])→gy (aX F) 47 [.bG 0 0] [dk l k] Q by
  obtain⟨_,_,h,b,k',rfl,rfl,h1⟩:=h (fun v G=>∃b k',v=aoD b∧G=[dk l k']∧db l k'∧0<b.s.length∧∀i,i<b.s.length→(nth b.s i).f.length≤7) fun b k' a e d=>⟨b,k',rfl,rfl,a,e,d⟩;exact⟨b,k',h,h1⟩
 intro Q hQ;refine gS rfl rfl ?_;obtain⟨t,k1,n1,gB,ht0,ht⟩:=fK hd 20 (by omega)
 obtain⟨w,k2,n2,eX,hw0,hw⟩:=fK gB 8 (by omega)
 obtain⟨n,k3,n3,lT,vW,hn⟩:=fK eX 6 (by omega)
 obtain⟨n,rfl⟩:∃k:Nat,n=k:=⟨n.toNat,by omega⟩
 obtain⟨a,k4,n4,pE,ha0,ha⟩:=fK lT 4 (by omega)
 simp +contextual (disch:=omega) [-getElem?_pos,-List.length_eq_zero_iff,-Int.natCast_eq_zero,wrap64,auq,n1,n2,n3,n4];refine go_loop (fun y:List Sc×Int×Nat=>ayL (.bG 0 0) (1+n) y.2.1 [z0,.bV,.bool false] [i64 t,.slice (some 1042) 2 (y.1.map Sc.row),.bool (decide (w=7))] y.1.length [dk l y.2.2])
  (fun y=>((y.1.length:Int)+y.2.1=1+a∧0≤y.2.1)∧db l y.2.2∧∀i,i<y.1.length→(nth y.1 i).f.length≤7) (fun y=>y.2.1.toNat) ([],1+a,k4) rfl (by simp) ⟨by simp;omega,pE,by simp⟩ ?_
 rintro⟨s,b,k⟩ ⟨hb,hd,hs⟩;simp only at hb hd hs;simp +contextual (disch:=omega) [-getElem?_pos,-List.length_eq_zero_iff,-Int.natCast_eq_zero,wrap64,atX];refine bE (fun h3=>?_) (fun h3=>?_)
 ·obtain⟨v,k5,n5,xU,TZ,hv⟩:=fK hd 5 (by omega)
  simp +contextual (disch:=omega) [-getElem?_pos,-List.length_eq_zero_iff,-Int.natCast_eq_zero,wrap64,n5];refine go_loop (fun y:List Int×Nat=>ayJ (.bG 0 0) (1+n) b (1+n) y.1.length [z0,.bV,.bool false] [i64 t,.slice (some 1042) 2 (s.map Sc.row),.bool (decide (w=7))] [i64 (1+v),.slice (some 1035) 1 (y.1.map fun x=>[i64 x])] y.1.length s.length [dk l y.2])
   (fun y=>y.1.length≤1+n∧db l y.2) (fun y=>1+n-y.1.length) ([],k5) rfl (by simp) ⟨by simp,xU⟩ ?_
  rintro⟨q,k⟩ ⟨hq,hd⟩;simp only at hq hd;simp +contextual (disch:=omega) [-getElem?_pos,-List.length_eq_zero_iff,-Int.natCast_eq_zero,wrap64,atW];refine bE (fun h4=>?_) (fun h4=>?_)
  ·obtain⟨u,k6,n6,zY,qz,hu⟩:=fK hd 12 (by omega)
   simp +contextual (disch:=omega) [-getElem?_pos,-List.length_eq_zero_iff,-Int.natCast_eq_zero,wrap64,n6];exact bF (q++[u],k6) (by simp) ⟨by simp;omega,zY⟩ (by simp;omega)
  ·refine bF (s++[⟨1+v,q⟩],b-1,k) (by simp) ⟨by simp;omega,hd,fun i hi=>?_⟩ (by simp;omega)
   simp only[List.length_append,List.length_singleton]at hi;rw[iF];by_cases g:i<s.length
   ·rw[if_pos g];exact hs i g
   ·rw[if_neg g,if_pos (by omega)]
    show q.length≤7;omega
 ·exact hQ ⟨t,s,decide (w=7)⟩ k hd (by show 0<s.length;omega) hs
end Go.Proofs.YtocclbnghhaejaaGreat
