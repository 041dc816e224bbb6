/- Parts of the proof, joined: Mut1, End0. -/
import Derived.Test.YtmpikpodpgnjhaaGreatSh
import Derived.Test.YtmpikpodpgnjhaaGreatQV
import Derived.Test.YtmpikpodpgnjhaaGreatVmN
import Derived.Test.YtmpikpodpgnjhaaGreatRows
namespace Go.Proofs.YtmpikpodpgnjhaaGreat
set_option linter.all false
open Go.Vm Go.Shelf Go.RowKit Go.Lib
theorem aiD{w:World}{b:Nat}{c:Array Value}{e:TypeId}{d:Array Int}(hb:w.heap[b]?=some (.cells c e (0,0))) :
  (Go.Sort.putRow (Value.int .i64) w b 0 d).heap[b]?=some (.cells (Go.Sort.putCells (Value.int .i64) 0 d c) e (0,0)):=by
 simp[Go.Sort.putRow,Go.Sort.mapBlock,Array.getElem?_modify,hb,Go.Sort.onCells]
theorem aiE{w:World}{b i:Nat}{d:Array Int}(h:i≠b):(Go.Sort.putRow (Value.int .i64) w b 0 d).heap[i]?=w.heap[i]?:=by
 simp[Go.Sort.putRow,Go.Sort.mapBlock,Array.getElem?_modify,Ne.symm h]
theorem HI{c:Array Value}{d:Array Int}{j:Nat}:(Go.Sort.putCells (Value.int .i64) 0 d c)[j]?=if j<d.size then (c[j]?).map fun _=>.int .i64 d[j]! else c[j]?:=by
 simp only[Go.Sort.putCells,Array.getElem?_mapIdx,Nat.zero_le,true_and,Nat.zero_add,Nat.sub_zero];split
 ·rfl
 ·cases c[j]?<;>rfl
theorem holds_of{w:World}{b:Nat}{c:Array Value}{e:TypeId}{zs:List Int}(hb:w.heap[b]?=some (.cells c e (0,0)))(hc:∀(j:Nat) z,zs[j]?=some z→c[j]?=some (.int .i64 z)) :
  Go.Sort.Holds (Value.int .i64) w b 0 zs.toArray:=by
 intro j hj;have sf:j<zs.length:=by simpa using hj
 have h1:=hc j zs[j] (List.getElem?_eq_getElem sf);constructor
 ·simp only[World.cell?,hb,Nat.zero_add,h1]
  simp[sf]
 ·simp[World.frozen?,hb]
theorem UR{w w':World}{b:Nat}{c:Array Value}{e:TypeId}{d:Array Int}{n:Nat}{os:Array Obj}(hb:w.heap[b]?=some (.cells c e (0,0)))(hw:w'=Go.Sort.grow (Go.Sort.putRow (Value.int .i64) (Go.Sort.ahead w n) b 0 d) os) :
  Written w w' b (Go.Sort.putCells (Value.int .i64) 0 d c) e:=by
 subst hw;have bG:b<w.heap.size:=(Array.getElem?_eq_some_iff.1 hb).1;have hs:(Go.Sort.putRow (Value.int .i64) (Go.Sort.ahead w n) b 0 d).heap.size=w.heap.size:=by simp
 refine⟨rfl,rfl,rfl,by simp,fun i hi tS=>?_,?_⟩
 ·rw[Go.Sort.heap_grow_old _ _ (by rw[hs];exact tS),aiE hi];rfl
 ·rw[Go.Sort.heap_grow_old _ _ (by rw[hs];exact bG)]
  exact aiD (w:=Go.Sort.ahead w n) hb
def kf:Int→List Int→List Int
 |_,[]=>[]
 |p,a::l=>if a=p then kf a l else a::kf a l
theorem Nd:∀(x:Int) (l:List Int),dedup (x::l)=x::kf x l
 |_,[]=>rfl
 |x,y::r=>by
  have ih:=Nd y r;simp only[dedup,kf];by_cases h:x=y
  ·subst h
   simp[ih]
  ·have h':(x==y)=false:=by simpa using h
   have h2:¬y=x:=fun e=>h e.symm;simp[h',h2,ih]
theorem US(a:Int):∀(p:Int) (l:List Int),kf p (l++[a])=kf p l++(if a=l.getLastD p then [] else [a])
 |p,[]=>by simp[kf]
 |p,b::l=>by
  have ih:=US a b l;have e:(b::l).getLastD p=l.getLastD b:=by cases l<;>rfl
  rw[e,List.cons_append,kf,kf,ih];split<;>simp
theorem UT{zs:List Int}:∀{m:Nat},m≤zs.length→compactUpTo zs.toArray m=dedup (zs.take m)
 |0,_=>by simp[compactUpTo,dedup]
 |m+1,h=>by
  have ih:=UT (zs:=zs) (m:=m) (by omega)
  have e:compactUpTo zs.toArray (m+1)=compactUpTo zs.toArray m++(if keeps zs.toArray m then [zs.toArray[m]!] else []):=by
   simp only[compactUpTo,List.range_succ,List.filter_append,List.map_append];congr 1;by_cases hk:keeps zs.toArray m=true<;>simp[hk]
  have hm:zs.toArray[m]! = nth zs m:=by simp[nth,h]
  rw[e,ih,hm,List.take_add_one,bp h];cases m with
  |zero =>
   rw[if_pos (keeps_lt_one _ 0 (by omega))]
   simp[dedup]
  |succ m =>
   have sG:zs.toArray[m]! = nth zs m:=by simp[nth,show m<zs.length by omega]
   cases hz:zs with
   |nil=>rw[hz]at h;simp at h
   |cons x r =>
    rw[hz]at h hm sG;simp only[List.length_cons]at h;have UQ:(r.take m).getLastD x=nth (x::r) m:=by
     rw[List.getLastD_eq_getLast?,List.getLast?_take];cases m with
     |zero=>simp[nth]
     |succ m =>
      have:m<r.length:=by omega
      simp[nth,this]
    simp only[List.take_succ_cons,Option.toList_some];rw[Nd,List.cons_append,List.cons_append,Nd,US,UQ];by_cases hk:nth (x::r) (m+1)=nth (x::r) m
    ·rw[keeps_neg (by omega) (by simp only[Nat.add_sub_cancel];rw[hm,sG,hk])]
     simp[hk]
    ·rw[keeps_pos (by simp only[Nat.add_sub_cancel];rw[hm,sG];exact hk)]
     simp[hk]
theorem aiF(zs:List Int):compactUpTo zs.toArray zs.toArray.size=dedup zs:=by
 have:=UT (zs:=zs) (m:=zs.length) (Nat.le_refl _)
 rwa [List.take_length]at this
theorem aiG:pU Tryz.prog 0 229 where
 fn:=⟨_,Tryz.func229,by kernel_rfl,by kernel_rfl⟩
 run:=fun w b cap zs c e hb hc h1 h2 h3=>by
  have h3:zs.length≤4294967296:=h3;have bG:b<w.heap.size:=(Array.getElem?_eq_some_iff.1 hb).1;refine(AnyM.slices_Sort_int Tryz.agE b 0 cap zs w (holds_of hb hc) bG (by omega)).mono fun r w' ⟨hr,n,os,hw⟩=>?_
  have hl:=(xe zs).length_eq;rw[←ZM]at hw;refine⟨hr,_,UR hb hw,by simp[Go.Sort.putCells],fun j z hz=>?_,fun j hj=>?_⟩
  ·have Nf:(mK zs)[j]?=some z:=hz
   have hj:=e7 Nf;rw[HI,if_pos (by simpa using hj)]
   have Ah:j<c.size:=by omega
   simp only[Array.getElem?_eq_getElem Ah,Option.map_some];congr 2;rw[List.getElem?_eq_getElem hj]at Nf;cases Nf;simp[hj]
  ·rw[HI,if_neg (by simp;omega)]
theorem aiH:pU Tryz.prog 1 230 where
 fn:=⟨_,Tryz.func230,by kernel_rfl,by kernel_rfl⟩
 run:=fun w b cap zs c e hb hc h1 h2 h3=>by
  have h3:zs.length≤4294967296:=h3;have bG:b<w.heap.size:=(Array.getElem?_eq_some_iff.1 hb).1;refine(AnyE.slices_Compact Tryz.agG (Value.int .i64) (fun _=>rfl) (EqlAt.intD _ _ .i64) (NeqAt.intD _ _ .i64) 0 Tryz.zeroValue3 b 0 cap zs.toArray w (holds_of hb hc) (by simp;omega) (by simpa using h1)).mono fun r w' ⟨hr,n,hw⟩=>?_
  rw[aiF]at hr hw;have hd:=A0 zs;have ry:w'=Go.Sort.grow (Go.Sort.putRow (Value.int .i64) (Go.Sort.ahead w n) b 0 (rW 1 zs).toArray) #[]:=by
   rw[Go.Sort.grow_empty];exact hw
  refine⟨hr,_,UR hb ry,by simp[Go.Sort.putCells],fun j z hz=>?_,fun j hj=>?_⟩
  ·have hj:=e7 hz
   have hl:=Ku 1 zs;rw[HI,if_pos (by simpa using hj)]
   have Ah:j<c.size:=by omega
   simp only[Array.getElem?_eq_getElem Ah,Option.map_some];congr 2;rw[List.getElem?_eq_getElem hj]at hz;cases hz;simp[hj]
  ·have hl:=Ku 1 zs
   rw[HI,if_neg (by simp;omega)]
theorem aiI:Kw Tryz.prog 146 where
 fn:=⟨_,Tryz.func146,by kernel_rfl,by kernel_rfl⟩
 run:=fun w n h0 hl=>by
  obtain⟨k,rfl⟩:=Int.eq_ofNat_of_zero_le h0;have hl:(k:Int)≤4294967296:=hl;have hi:(Tryz.prog.info? 3).map (fun i=>(i.zero,i.size,i.bytes))=some (some (.int .i64 0),1,8):=by kernel_rfl
  obtain⟨i0,hi,he⟩:=Option.map_eq_some_iff.1 hi;simp only[Prod.mk.injEq]at he;obtain⟨hz,hs,hb⟩:=he;by_cases hk:k=0
  ·subst hk
   exact(Any8.slices_Grow_room Tryz.Tj none 0 0 0 w (by omega) (by omega) (by omega) (by omega)).mono fun r w' h=>.inl h
  ·refine(Any8.slices_Grow_grow Tryz.Tj i0 (.int .i64 0) hi hz (by omega) none 0 0 k [] w (by omega) (by omega) (by rw[hb];omega) (by omega) (by simp) (fun _=>rfl) (fun a h=>by cases h)).mono fun r w' h=>?_
   obtain⟨rfl,rfl⟩:=h;exact .inr ⟨_,_,_,rfl,rfl,rfl,rfl,rfl,by
    have:=grownCap_ge w (0+k) 0 (Tryz.Ti.t 25);simp[Builtin.zeroCells,Value.cells];omega⟩
theorem aiJ(f k:Nat)(h:Go.Vm.look f bS=some k):pU Tryz.prog k f:=by
 simp only[bS,Go.Vm.look]at h;by_cases h0:(146==f)=true
 ·rw[h0]at h
  cases h;have:=eq_of_beq h0;subst this;exact aiI
 rw[Bool.eq_false_iff.2 h0]at h;by_cases h1:(229==f)=true
 ·rw[h1]at h
  cases h;have:=eq_of_beq h1;subst this;exact aiG
 ·rw[Bool.eq_false_iff.2 h1]at h
  by_cases h2:(230==f)=true
  ·rw[h2]at h
   cases h;have:=eq_of_beq h2;subst this;exact aiH
  ·rw[Bool.eq_false_iff.2 h2]at h
   cases h
end Go.Proofs.YtmpikpodpgnjhaaGreat
namespace Go.Proofs.YtmpikpodpgnjhaaGreat
set_option linter.all false
open Go.Vm
open Go.ChangeShapes Go.WideShapes Go.ChangeAt Go.RowKit
theorem Tryz.own:ownKnob Tryz.prog.godebug=none:=by kernel_rfl
theorem Tryz.laidOut:laidOutB Tryz.prog=true:=by kernel_rfl
theorem aiK:oR Tryz.prog (bo F):=YU (CR aiJ Tryz.checked.mixed agC)
end Go.Proofs.YtmpikpodpgnjhaaGreat
