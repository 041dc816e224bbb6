/- Parts of the proof, joined: Mut1, End0. -/
import Derived.Test.YtfjdfnegookkcaaGreatSh
import Derived.Test.YtfjdfnegookkcaaGreatQV
import Derived.Test.YtfjdfnegookkcaaGreatVmN
import Derived.Test.YtfjdfnegookkcaaGreatRows
namespace Go.Proofs.YtfjdfnegookkcaaGreat
set_option linter.all false
open Go.Vm Go.Shelf Go.RowKit Go.Lib
theorem cells_putRow {w:World} {b:Nat} {c:Array Value} {e:TypeId} {d:Array Int} (hb:w.heap[b]? = some (.cells c e (0,0))) :
  (Go.Sort.putRow (Value.int .i64) w b 0 d).heap[b]? = some (.cells (Go.Sort.putCells (Value.int .i64) 0 d c) e (0,0)):=by
 simp [Go.Sort.putRow,Go.Sort.mapBlock,Array.getElem?_modify,hb,Go.Sort.onCells]
theorem putRow_same {w:World} {b i:Nat} {d:Array Int} (h:i ≠ b):(Go.Sort.putRow (Value.int .i64) w b 0 d).heap[i]? = w.heap[i]?:=by
 simp [Go.Sort.putRow,Go.Sort.mapBlock,Array.getElem?_modify,Ne.symm h]
theorem putCells_get {c:Array Value} {d:Array Int} {j:Nat}:(Go.Sort.putCells (Value.int .i64) 0 d c)[j]? = if j < d.size then (c[j]?).map fun _ => .int .i64 d[j]! else c[j]?:=by
 simp only [Go.Sort.putCells,Array.getElem?_mapIdx,Nat.zero_le,true_and,Nat.zero_add,Nat.sub_zero]
 split
 ·rfl
 ·cases c[j]? <;> rfl
theorem holds_of {w:World} {b:Nat} {c:Array Value} {e:TypeId} {zs:List Int} (hb:w.heap[b]? = some (.cells c e (0,0))) (hc:∀ (j:Nat) z,zs[j]? = some z → c[j]? = some (.int .i64 z)) :
  Go.Sort.Holds (Value.int .i64) w b 0 zs.toArray:=by
 intro j hj
 have hj':j < zs.length:=by simpa using hj
 have h1:=hc j zs[j] (List.getElem?_eq_getElem hj')
 constructor
 ·simp only [World.cell?,hb,Nat.zero_add,h1]
  simp [hj']
 ·simp [World.frozen?,hb]
theorem written_put {w w':World} {b:Nat} {c:Array Value} {e:TypeId} {d:Array Int} {n:Nat} {os:Array Obj} (hb:w.heap[b]? = some (.cells c e (0,0))) (hw:w' = Go.Sort.grow (Go.Sort.putRow (Value.int .i64) (Go.Sort.ahead w n) b 0 d) os) :
  Written w w' b (Go.Sort.putCells (Value.int .i64) 0 d c) e:=by
 subst hw
 have hlt:b < w.heap.size:=(Array.getElem?_eq_some_iff.1 hb).1
 have hs:(Go.Sort.putRow (Value.int .i64) (Go.Sort.ahead w n) b 0 d).heap.size = w.heap.size:=by simp
 refine ⟨rfl,rfl,rfl,by simp,fun i hi hlt' => ?_,?_⟩
 ·rw [Go.Sort.heap_grow_old _ _ (by rw [hs];exact hlt'),putRow_same hi];rfl
 ·rw [Go.Sort.heap_grow_old _ _ (by rw [hs];exact hlt)]
  exact cells_putRow (w:=Go.Sort.ahead w n) hb
def kf:Int → List Int → List Int
 | _,[] => []
 | p,a :: l => if a = p then kf a l else a :: kf a l
theorem dedup_kf:∀ (x:Int) (l:List Int),dedup (x :: l) = x :: kf x l
 | _,[] => rfl
 | x,y :: r => by
   have ih:=dedup_kf y r
   simp only [dedup,kf]
   by_cases h:x = y
   ·subst h
    simp [ih]
   ·have h':(x == y) = false:=by simpa using h
    have h2:¬y = x:=fun e => h e.symm
    simp [h',h2,ih]
theorem kf_snoc (a:Int):∀ (p:Int) (l:List Int),kf p (l ++ [a]) = kf p l ++ (if a = l.getLastD p then [] else [a])
 | p,[] => by simp [kf]
 | p,b :: l => by
   have ih:=kf_snoc a b l
   have e:(b :: l).getLastD p = l.getLastD b:=by cases l <;> rfl
   rw [e,List.cons_append,kf,kf,ih]
   split <;> simp
theorem compact_take {zs:List Int}:∀ {m:Nat},m ≤ zs.length → compactUpTo zs.toArray m = dedup (zs.take m)
 | 0,_ => by simp [compactUpTo,dedup]
 | m + 1,h => by
   have ih:=compact_take (zs:=zs) (m:=m) (by omega)
   have e:compactUpTo zs.toArray (m + 1) = compactUpTo zs.toArray m ++ (if keeps zs.toArray m then [zs.toArray[m]!] else []):=by
    simp only [compactUpTo,List.range_succ,List.filter_append,List.map_append]
    congr 1
    by_cases hk:keeps zs.toArray m = true <;> simp [hk]
   have hm:zs.toArray[m]! = nth zs m:=by simp [nth,h]
   rw [e,ih,hm,List.take_add_one,get_nth h]
   cases m with
   | zero =>
     rw [if_pos (keeps_lt_one _ 0 (by omega))]
     simp [dedup]
   | succ m =>
     have hm':zs.toArray[m]! = nth zs m:=by simp [nth,show m < zs.length by omega]
     cases hz:zs with
     | nil => rw [hz] at h;simp at h
     | cons x r =>
       rw [hz] at h hm hm'
       simp only [List.length_cons] at h
       have hlast:(r.take m).getLastD x = nth (x :: r) m:=by
        rw [List.getLastD_eq_getLast?,List.getLast?_take]
        cases m with
        | zero => simp [nth]
        | succ m =>
          have:m < r.length:=by omega
          simp [nth,this]
       simp only [List.take_succ_cons,Option.toList_some]
       rw [dedup_kf,List.cons_append,List.cons_append,dedup_kf,kf_snoc,hlast]
       by_cases hk:nth (x :: r) (m + 1) = nth (x :: r) m
       ·rw [keeps_neg (by omega) (by simp only [Nat.add_sub_cancel];rw [hm,hm',hk])]
        simp [hk]
       ·rw [keeps_pos (by simp only [Nat.add_sub_cancel];rw [hm,hm'];exact hk)]
        simp [hk]
theorem dedup_compact (zs:List Int):compactUpTo zs.toArray zs.toArray.size = dedup zs:=by
 have:=compact_take (zs:=zs) (m:=zs.length) (Nat.le_refl _)
 rwa [List.take_length] at this
theorem mut_sort:MutOK Tryz.prog 0 123 where
 fn:=⟨_,Tryz.func123,by kernel_rfl,by kernel_rfl⟩
 run:=fun w b cap zs c e hb hc h1 h2 h3 => by
  have h3:zs.length ≤ 4294967296:=h3
  have hlt:b < w.heap.size:=(Array.getElem?_eq_some_iff.1 hb).1
  refine (AnyM.slices_Sort_int Tryz.laySort b 0 cap zs w (holds_of hb hc) hlt (by omega)).mono fun r w' ⟨hr,n,os,hw⟩ => ?_
  have hl:=(sortI_perm zs).length_eq
  rw [← sortI_eq] at hw
  refine ⟨hr,_,written_put hb hw,by simp [Go.Sort.putCells],fun j z hz => ?_,fun j hj => ?_⟩
  ·have hz':(sortI zs)[j]? = some z:=hz
   have hj:=lt_of_get? hz'
   rw [putCells_get,if_pos (by simpa using hj)]
   have hjc:j < c.size:=by omega
   simp only [Array.getElem?_eq_getElem hjc,Option.map_some]
   congr 2
   rw [List.getElem?_eq_getElem hj] at hz'
   cases hz'
   simp [hj]
  ·rw [putCells_get,if_neg (by simp;omega)]
theorem mut_compact:MutOK Tryz.prog 1 124 where
 fn:=⟨_,Tryz.func124,by kernel_rfl,by kernel_rfl⟩
 run:=fun w b cap zs c e hb hc h1 h2 h3 => by
  have h3:zs.length ≤ 4294967296:=h3
  have hlt:b < w.heap.size:=(Array.getElem?_eq_some_iff.1 hb).1
  refine (AnyE.slices_Compact Tryz.layCompact (Value.int .i64) (fun _ => rfl) (EqlAt.intD _ _ .i64) (NeqAt.intD _ _ .i64) 0 Tryz.zeroValue3 b 0 cap zs.toArray w (holds_of hb hc) (by simp;omega) (by simpa using h1)).mono fun r w' ⟨hr,n,hw⟩ => ?_
  rw [dedup_compact] at hr hw
  have hd:=dedup_len zs
  have hw2:w' = Go.Sort.grow (Go.Sort.putRow (Value.int .i64) (Go.Sort.ahead w n) b 0 (mutF 1 zs).toArray) #[]:=by
   rw [Go.Sort.grow_empty];exact hw
  refine ⟨hr,_,written_put hb hw2,by simp [Go.Sort.putCells],fun j z hz => ?_,fun j hj => ?_⟩
  ·have hj:=lt_of_get? hz
   have hl:=mutF_len 1 zs
   rw [putCells_get,if_pos (by simpa using hj)]
   have hjc:j < c.size:=by omega
   simp only [Array.getElem?_eq_getElem hjc,Option.map_some]
   congr 2
   rw [List.getElem?_eq_getElem hj] at hz
   cases hz
   simp [hj]
  ·have hl:=mutF_len 1 zs
   rw [putCells_get,if_neg (by simp;omega)]
theorem mut_all (f k:Nat) (h:Go.Vm.look f prs = some k):MutOK Tryz.prog k f:=by
 simp only [prs,Go.Vm.look] at h
 by_cases h1:(123 == f) = true
 ·rw [h1] at h
  cases h
  have:=eq_of_beq h1
  subst this
  exact mut_sort
 ·rw [Bool.eq_false_iff.2 h1] at h
  by_cases h2:(124 == f) = true
  ·rw [h2] at h
   cases h
   have:=eq_of_beq h2
   subst this
   exact mut_compact
  ·rw [Bool.eq_false_iff.2 h2] at h
   cases h
end Go.Proofs.YtfjdfnegookkcaaGreat
namespace Go.Proofs.YtfjdfnegookkcaaGreat
set_option linter.all false
open Go.Vm
open Go.ChangeShapes Go.WideShapes Go.ChangeAt Go.RowKit
theorem Tryz.own:ownKnob Tryz.prog.godebug = none:=by kernel_rfl
theorem Tryz.laidOut:laidOutB Tryz.prog = true:=by kernel_rfl
theorem all_callee:CalleeOK Tryz.prog (Lim F):=lim_ok (callee_ok mut_all Tryz.checked.mixed all_ok)
end Go.Proofs.YtfjdfnegookkcaaGreat
