/-
  The contracts of slices.Sort and slices.Compact at this program: the table of numbers, and a field a fact.
-/
import Derived.Shelf.SortM.Plain
import Derived.Shelf.SlicesE.Compact
import Derived.Ground.SlgmProg
import Derived.Ground.SlgnProg
import Derived.Test.YtnnfebjdjjbdaaaProg
namespace Go.Proofs.Ytnnfebjdjjbdaaa
open Go.Shelf
def Try.laySort_ren : Go.Shelf.Ren := ⟨fun | 5 => 90 | 8 => 105 | 7 => 104 | 19 => 120 | 20 => 121 | 10 => 111 | 11 => 112 | 12 => 113 | 13 => 114 | 14 => 115 | 15 => 116 | 16 => 117 | 17 => 118 | 18 => 119 | 30 => 124 | 31 => 125 | 32 => 126 | 33 => 127 | 34 => 128 | 35 => 87 | 40 => 129 | n => n, fun | 23 => 22 | 25 => 3 | 3 => 3 | 32 => 164 | 22 => 22 | 0 => 0 | 44 => 175 | 46 => 177 | 4 => 4 | 36 => 169 | 35 => 168 | 41 => 107 | 5 => 5 | 9 => 9 | 53 => 180 | 57 => 184 | 63 => 186 | 64 => 187 | n => n, fun | n => n⟩
theorem Try.laySort : Go.Proofs.SlLaysM.n5 Try.prog Try.laySort_ren := {
  mixed := by kernel_rfl
  f5 := ⟨Try.f90.name, by decide, Try.func90.trans (congrArg some (by kernel_rfl))⟩
  f7 := ⟨Try.f104.name, by decide, Try.func104.trans (congrArg some (by kernel_rfl))⟩
  f8 := Try.func105.trans (congrArg some (by kernel_rfl))
  f10 := ⟨Try.f111.name, by decide, Try.func111.trans (congrArg some (by kernel_rfl))⟩
  f11 := ⟨Try.f112.name, by decide, Try.func112.trans (congrArg some (by kernel_rfl))⟩
  f12 := ⟨Try.f113.name, by decide, Try.func113.trans (congrArg some (by kernel_rfl))⟩
  f13 := ⟨Try.f114.name, by decide, Try.func114.trans (congrArg some (by kernel_rfl))⟩
  f14 := ⟨Try.f115.name, by decide, Try.func115.trans (congrArg some (by kernel_rfl))⟩
  f15 := ⟨Try.f116.name, by decide, Try.func116.trans (congrArg some (by kernel_rfl))⟩
  f16 := ⟨Try.f117.name, by decide, Try.func117.trans (congrArg some (by kernel_rfl))⟩
  f17 := ⟨Try.f118.name, by decide, Try.func118.trans (congrArg some (by kernel_rfl))⟩
  f18 := ⟨Try.f119.name, by decide, Try.func119.trans (congrArg some (by kernel_rfl))⟩
  f19 := Try.func120.trans (congrArg some (by kernel_rfl))
  f20 := Try.func121.trans (congrArg some (by kernel_rfl))
  f30 := ⟨Try.f124.name, by decide, Try.func124.trans (congrArg some (by kernel_rfl))⟩
  f31 := Try.func125.trans (congrArg some (by kernel_rfl))
  f32 := Try.func126.trans (congrArg some (by kernel_rfl))
  f33 := ⟨Try.f127.name, by decide, Try.func127.trans (congrArg some (by kernel_rfl))⟩
  f34 := ⟨Try.f128.name, by decide, Try.func128.trans (congrArg some (by kernel_rfl))⟩
  f35 := ⟨Try.f87.name, by decide, Try.func87.trans (congrArg some (by kernel_rfl))⟩
  f40 := ⟨Try.f129.name, by decide, Try.func129.trans (congrArg some (by kernel_rfl))⟩
  t0 := Try.underlying0
  a0 := Try.isAgg0
  z0 := Try.sizeOf0
  v0 := Try.zeroValue0
  t3 := Try.underlying3
  a3 := Try.isAgg3
  z3 := Try.sizeOf3
  v3 := Try.zeroValue3
  t4 := Try.underlying4
  a4 := Try.isAgg4
  z4 := Try.sizeOf4
  v4 := Try.zeroValue4
  t5 := Try.underlying5
  a5 := Try.isAgg5
  z5 := Try.sizeOf5
  v5 := Try.zeroValue5
  t9 := Try.underlying9
  a9 := Try.isAgg9
  z9 := Try.sizeOf9
  v9 := Try.zeroValue9
  t22 := Try.underlying22
  a22 := Try.isAgg22
  z22 := Try.sizeOf22
  v22 := Try.zeroValue22
  t23 := Try.underlying22
  a23 := Try.isAgg22
  z23 := Try.sizeOf22
  v23 := Try.zeroValue22
  t25 := Try.underlying3
  a25 := Try.isAgg3
  z25 := Try.sizeOf3
  v25 := Try.zeroValue3
  t32 := Try.underlying164
  a32 := Try.isAgg164
  z32 := Try.sizeOf164
  v32 := Try.zeroValue164
  t35 := Try.underlying168
  a35 := Try.isAgg168
  z35 := Try.sizeOf168
  v35 := Try.zeroValue168
  t36 := Try.underlying169
  a36 := Try.isAgg169
  z36 := Try.sizeOf169
  v36 := Try.zeroValue169
  t41 := Try.underlying107
  a41 := Try.isAgg107
  z41 := Try.sizeOf107
  v41 := Try.zeroValue107
  t44 := Try.underlying175
  a44 := Try.isAgg175
  z44 := Try.sizeOf175
  v44 := Try.zeroValue175
  t46 := Try.underlying177
  a46 := Try.isAgg177
  z46 := Try.sizeOf177
  v46 := Try.zeroValue177
  t53 := Try.underlying180
  a53 := Try.isAgg180
  z53 := Try.sizeOf180
  v53 := Try.zeroValue180
  t57 := Try.underlying184
  a57 := Try.isAgg184
  z57 := Try.sizeOf184
  v57 := Try.zeroValue184
  t63 := Try.underlying186
  a63 := Try.isAgg186
  z63 := Try.sizeOf186
  v63 := Try.zeroValue186
  t64 := Try.underlying187
  a64 := Try.isAgg187
  z64 := Try.sizeOf187
  v64 := Try.zeroValue187 }
def Try.layCompact_ren : Go.Shelf.Ren := ⟨fun | 43 => 91 | n => n, fun | 22 => 22 | 23 => 3 | 3 => 3 | 4 => 4 | 0 => 0 | n => n, fun | n => n⟩
theorem Try.layCompact : Go.Proofs.SlLaysE.n43 Try.prog Try.layCompact_ren := {
  mixed := by kernel_rfl
  f43 := ⟨Try.f91.name, by decide, Try.func91.trans (congrArg some (by kernel_rfl))⟩
  t0 := Try.underlying0
  a0 := Try.isAgg0
  z0 := Try.sizeOf0
  v0 := Try.zeroValue0
  t3 := Try.underlying3
  a3 := Try.isAgg3
  z3 := Try.sizeOf3
  v3 := Try.zeroValue3
  t4 := Try.underlying4
  a4 := Try.isAgg4
  z4 := Try.sizeOf4
  v4 := Try.zeroValue4
  t22 := Try.underlying22
  a22 := Try.isAgg22
  z22 := Try.sizeOf22
  v22 := Try.zeroValue22
  a23 := Try.isAgg3
  z23 := Try.sizeOf3 }
end Go.Proofs.Ytnnfebjdjjbdaaa
