/-
  The functions of the program, as the value machine has them, by program.
-/
import Derived.Test.YtnnfebjdjjbdaaaW0
import Derived.Test.YtnnfebjdjjbdaaaW1
import Derived.Test.YtnnfebjdjjbdaaaProg
namespace Go.Proofs.Ytnnfebjdjjbdaaa
open Go.Vm
set_option maxRecDepth 100000
def prs : List (Nat × Nat) := [(90, 0), (91, 1)]
theorem ok_w19_DispatchOrder : okFunc Try.prog prs Try.f3 v_w19_DispatchOrder = true := by kernel_rfl
theorem ok_w19_DispatchBest : okFunc Try.prog prs Try.f4 v_w19_DispatchBest = true := by kernel_rfl
theorem ok_w19_DispatchGreatest : okFunc Try.prog prs Try.f5 v_w19_DispatchGreatest = true := by kernel_rfl
theorem ok_w19_DispatchTurns : okFunc Try.prog prs Try.f6 v_w19_DispatchTurns = true := by kernel_rfl
theorem ok_w19_DispatchMore : okFunc Try.prog prs Try.f7 v_w19_DispatchMore = true := by kernel_rfl
theorem ok_w22_DamMore : okFunc Try.prog prs Try.f8 v_w22_DamMore = true := by kernel_rfl
theorem ok_mk_New : okFunc Try.prog prs Try.f10 v_mk_New = true := by kernel_rfl
theorem ok_mk_Deck_Next : okFunc Try.prog prs Try.f11 v_mk_Deck_Next = true := by kernel_rfl
theorem ok_mk_Flows : okFunc Try.prog prs Try.f12 v_mk_Flows = true := by kernel_rfl
theorem ok_dispatch_Better : okFunc Try.prog prs Try.f13 v_dispatch_Better = true := by kernel_rfl
theorem ok_r01_Same : okFunc Try.prog prs Try.f14 v_r01_Same = true := by kernel_rfl
theorem ok_w19_awake : okFunc Try.prog prs Try.f15 v_w19_awake = true := by kernel_rfl
theorem ok_mk_Units : okFunc Try.prog prs Try.f16 v_mk_Units = true := by kernel_rfl
theorem ok_w19_light : okFunc Try.prog prs Try.f17 v_w19_light = true := by kernel_rfl
theorem ok_dispatch_Best : okFunc Try.prog prs Try.f18 v_dispatch_Best = true := by kernel_rfl
theorem ok_r19_Best : okFunc Try.prog prs Try.f19 v_r19_Best = true := by kernel_rfl
theorem ok_dispatch_Range : okFunc Try.prog prs Try.f20 v_dispatch_Range = true := by kernel_rfl
theorem ok_r19_Range : okFunc Try.prog prs Try.f21 v_r19_Range = true := by kernel_rfl
theorem ok_dispatch_Value : okFunc Try.prog prs Try.f22 v_dispatch_Value = true := by kernel_rfl
theorem ok_r18_Flows : okFunc Try.prog prs Try.f23 v_r18_Flows = true := by kernel_rfl
theorem ok_mk_Mod : okFunc Try.prog prs Try.f24 v_mk_Mod = true := by kernel_rfl
theorem ok_mk_Unit : okFunc Try.prog prs Try.f25 v_mk_Unit = true := by kernel_rfl
theorem ok_mk_Dam : okFunc Try.prog prs Try.f26 v_mk_Dam = true := by kernel_rfl
theorem ok_dam_Step : okFunc Try.prog prs Try.f27 v_dam_Step = true := by kernel_rfl
theorem ok_r03_Volume : okFunc Try.prog prs Try.f28 v_r03_Volume = true := by kernel_rfl
theorem ok_w22_awake : okFunc Try.prog prs Try.f29 v_w22_awake = true := by kernel_rfl
theorem ok_dam_Can : okFunc Try.prog prs Try.f30 v_dam_Can = true := by kernel_rfl
theorem ok_slices_Compare_int_int : okFunc Try.prog prs Try.f31 v_slices_Compare_int_int = true := by kernel_rfl
theorem ok_dispatch_Check : okFunc Try.prog prs Try.f32 v_dispatch_Check = true := by kernel_rfl
theorem ok_mk_UnitState : okFunc Try.prog prs Try.f33 v_mk_UnitState = true := by kernel_rfl
theorem ok_r18_Valid : okFunc Try.prog prs Try.f34 v_r18_Valid = true := by kernel_rfl
theorem ok_r19_Count : okFunc Try.prog prs Try.f35 v_r19_Count = true := by kernel_rfl
theorem ok_dispatch_station : okFunc Try.prog prs Try.f36 v_dispatch_station = true := by kernel_rfl
theorem ok_dispatch_Best_1 : okFunc Try.prog prs Try.f37 v_dispatch_Best_1 = true := by kernel_rfl
theorem ok_r19_wrong : okFunc Try.prog prs Try.f38 v_r19_wrong = true := by kernel_rfl
theorem ok_r01_In : okFunc Try.prog prs Try.f39 v_r01_In = true := by kernel_rfl
theorem ok_r19_all : okFunc Try.prog prs Try.f40 v_r19_all = true := by kernel_rfl
theorem ok_r19_Value : okFunc Try.prog prs Try.f41 v_r19_Value = true := by kernel_rfl
theorem ok_r19_Better : okFunc Try.prog prs Try.f42 v_r19_Better = true := by kernel_rfl
theorem ok_unit_May : okFunc Try.prog prs Try.f43 v_unit_May = true := by kernel_rfl
theorem ok_unit_Power : okFunc Try.prog prs Try.f44 v_unit_Power = true := by kernel_rfl
theorem ok_r18_Check : okFunc Try.prog prs Try.f45 v_r18_Check = true := by kernel_rfl
theorem ok_r18_inside : okFunc Try.prog prs Try.f46 v_r18_inside = true := by kernel_rfl
theorem ok_mk_Curve : okFunc Try.prog prs Try.f47 v_mk_Curve = true := by kernel_rfl
theorem ok_mk_Reservoir : okFunc Try.prog prs Try.f48 v_mk_Reservoir = true := by kernel_rfl
theorem ok_mk_Gates : okFunc Try.prog prs Try.f49 v_mk_Gates = true := by kernel_rfl
theorem ok_dam_Level : okFunc Try.prog prs Try.f50 v_dam_Level = true := by kernel_rfl
theorem ok_slices_ContainsFunc_int_int : okFunc Try.prog prs Try.f51 v_slices_ContainsFunc_int_int = true := by kernel_rfl
theorem ok_dam_Step_1 : okFunc Try.prog prs Try.f52 v_dam_Step_1 = true := by kernel_rfl
theorem ok_quantity_Within : okFunc Try.prog prs Try.f53 v_quantity_Within = true := by kernel_rfl
theorem ok_r03_wrong : okFunc Try.prog prs Try.f55 v_r03_wrong = true := by kernel_rfl
theorem ok_r02_At : okFunc Try.prog prs Try.f56 v_r02_At = true := by kernel_rfl
theorem ok_dam_Flow : okFunc Try.prog prs Try.f57 v_dam_Flow = true := by kernel_rfl
theorem ok_gate_Range : okFunc Try.prog prs Try.f58 v_gate_Range = true := by kernel_rfl
theorem ok_cmp_Compare_int : okFunc Try.prog prs Try.f59 v_cmp_Compare_int = true := by kernel_rfl
theorem ok_slices_Equal_int_int : okFunc Try.prog prs Try.f60 v_slices_Equal_int_int = true := by kernel_rfl
theorem ok_r18_Runs : okFunc Try.prog prs Try.f61 v_r18_Runs = true := by kernel_rfl
theorem ok_unit_Valid : okFunc Try.prog prs Try.f62 v_unit_Valid = true := by kernel_rfl
theorem ok_dispatch_choices : okFunc Try.prog prs Try.f63 v_dispatch_choices = true := by kernel_rfl
theorem ok_r01_in : okFunc Try.prog prs Try.f64 v_r01_in = true := by kernel_rfl
theorem ok_r19_options : okFunc Try.prog prs Try.f65 v_r19_options = true := by kernel_rfl
theorem ok_r18_Next : okFunc Try.prog prs Try.f66 v_r18_Next = true := by kernel_rfl
theorem ok_r18_Power : okFunc Try.prog prs Try.f67 v_r18_Power = true := by kernel_rfl
theorem ok_r19_before : okFunc Try.prog prs Try.f68 v_r19_before = true := by kernel_rfl
theorem ok_unit_may : okFunc Try.prog prs Try.f69 v_unit_may = true := by kernel_rfl
theorem ok_unit_Check : okFunc Try.prog prs Try.f70 v_unit_Check = true := by kernel_rfl
theorem ok_unit_runs : okFunc Try.prog prs Try.f71 v_unit_runs = true := by kernel_rfl
theorem ok_curve_Value : okFunc Try.prog prs Try.f72 v_curve_Value = true := by kernel_rfl
theorem ok_r02_Check : okFunc Try.prog prs Try.f73 v_r02_Check = true := by kernel_rfl
theorem ok_mk_Gate : okFunc Try.prog prs Try.f74 v_mk_Gate = true := by kernel_rfl
theorem ok_dam_asked : okFunc Try.prog prs Try.f75 v_dam_asked = true := by kernel_rfl
theorem ok_storage_Height : okFunc Try.prog prs Try.f76 v_storage_Height = true := by kernel_rfl
theorem ok_slices_IndexFunc_int_int : okFunc Try.prog prs Try.f77 v_slices_IndexFunc_int_int = true := by kernel_rfl
theorem ok_dam_work_over : okFunc Try.prog prs Try.f78 v_dam_work_over = true := by kernel_rfl
theorem ok_r03_Check : okFunc Try.prog prs Try.f81 v_r03_Check = true := by kernel_rfl
theorem ok_r02_at : okFunc Try.prog prs Try.f82 v_r02_at = true := by kernel_rfl
theorem ok_gate_asked : okFunc Try.prog prs Try.f83 v_gate_asked = true := by kernel_rfl
theorem ok_gate_at : okFunc Try.prog prs Try.f84 v_gate_at = true := by kernel_rfl
theorem ok_gate_reach : okFunc Try.prog prs Try.f85 v_gate_reach = true := by kernel_rfl
theorem ok_gate_view_flow : okFunc Try.prog prs Try.f86 v_gate_view_flow = true := by kernel_rfl
theorem ok_cmp_isNaN_int : okFunc Try.prog prs Try.f87 v_cmp_isNaN_int = true := by kernel_rfl
theorem ok_unit_fits : okFunc Try.prog prs Try.f88 v_unit_fits = true := by kernel_rfl
theorem ok_unit_Flows : okFunc Try.prog prs Try.f89 v_unit_Flows = true := by kernel_rfl
theorem ok_r18_May : okFunc Try.prog prs Try.f92 v_r18_May = true := by kernel_rfl
theorem ok_curve_Check : okFunc Try.prog prs Try.f93 v_curve_Check = true := by kernel_rfl
theorem ok_unit_beyond : okFunc Try.prog prs Try.f94 v_unit_beyond = true := by kernel_rfl
theorem ok_dam_Check : okFunc Try.prog prs Try.f95 v_dam_Check = true := by kernel_rfl
theorem ok_dam_fits : okFunc Try.prog prs Try.f96 v_dam_fits = true := by kernel_rfl
theorem ok_curve_Last : okFunc Try.prog prs Try.f97 v_curve_Last = true := by kernel_rfl
theorem ok_dam_crest : okFunc Try.prog prs Try.f98 v_dam_crest = true := by kernel_rfl
theorem ok_gate_Set : okFunc Try.prog prs Try.f99 v_gate_Set = true := by kernel_rfl
theorem ok_dam_work_free : okFunc Try.prog prs Try.f100 v_dam_work_free = true := by kernel_rfl
theorem ok_unit_Next : okFunc Try.prog prs Try.f101 v_unit_Next = true := by kernel_rfl
theorem ok_gate_valid : okFunc Try.prog prs Try.f102 v_gate_valid = true := by kernel_rfl
theorem ok_gate_Check : okFunc Try.prog prs Try.f103 v_gate_Check = true := by kernel_rfl
theorem ok_curve_steep : okFunc Try.prog prs Try.f106 v_curve_steep = true := by kernel_rfl
theorem ok_storage_Check : okFunc Try.prog prs Try.f107 v_storage_Check = true := by kernel_rfl
theorem ok_gate_view_enough : okFunc Try.prog prs Try.f108 v_gate_view_enough = true := by kernel_rfl
theorem ok_gate_Set_1 : okFunc Try.prog prs Try.f110 v_gate_Set_1 = true := by kernel_rfl
theorem ok_sort_Search : okFunc Try.prog prs Try.f122 v_sort_Search = true := by kernel_rfl
theorem ok_gate_least_1 : okFunc Try.prog prs Try.f123 v_gate_least_1 = true := by kernel_rfl
def F : FuncId → Option VFunc
  | 3 => some v_w19_DispatchOrder
  | 4 => some v_w19_DispatchBest
  | 5 => some v_w19_DispatchGreatest
  | 6 => some v_w19_DispatchTurns
  | 7 => some v_w19_DispatchMore
  | 8 => some v_w22_DamMore
  | 10 => some v_mk_New
  | 11 => some v_mk_Deck_Next
  | 12 => some v_mk_Flows
  | 13 => some v_dispatch_Better
  | 14 => some v_r01_Same
  | 15 => some v_w19_awake
  | 16 => some v_mk_Units
  | 17 => some v_w19_light
  | 18 => some v_dispatch_Best
  | 19 => some v_r19_Best
  | 20 => some v_dispatch_Range
  | 21 => some v_r19_Range
  | 22 => some v_dispatch_Value
  | 23 => some v_r18_Flows
  | 24 => some v_mk_Mod
  | 25 => some v_mk_Unit
  | 26 => some v_mk_Dam
  | 27 => some v_dam_Step
  | 28 => some v_r03_Volume
  | 29 => some v_w22_awake
  | 30 => some v_dam_Can
  | 31 => some v_slices_Compare_int_int
  | 32 => some v_dispatch_Check
  | 33 => some v_mk_UnitState
  | 34 => some v_r18_Valid
  | 35 => some v_r19_Count
  | 36 => some v_dispatch_station
  | 37 => some v_dispatch_Best_1
  | 38 => some v_r19_wrong
  | 39 => some v_r01_In
  | 40 => some v_r19_all
  | 41 => some v_r19_Value
  | 42 => some v_r19_Better
  | 43 => some v_unit_May
  | 44 => some v_unit_Power
  | 45 => some v_r18_Check
  | 46 => some v_r18_inside
  | 47 => some v_mk_Curve
  | 48 => some v_mk_Reservoir
  | 49 => some v_mk_Gates
  | 50 => some v_dam_Level
  | 51 => some v_slices_ContainsFunc_int_int
  | 52 => some v_dam_Step_1
  | 53 => some v_quantity_Within
  | 55 => some v_r03_wrong
  | 56 => some v_r02_At
  | 57 => some v_dam_Flow
  | 58 => some v_gate_Range
  | 59 => some v_cmp_Compare_int
  | 60 => some v_slices_Equal_int_int
  | 61 => some v_r18_Runs
  | 62 => some v_unit_Valid
  | 63 => some v_dispatch_choices
  | 64 => some v_r01_in
  | 65 => some v_r19_options
  | 66 => some v_r18_Next
  | 67 => some v_r18_Power
  | 68 => some v_r19_before
  | 69 => some v_unit_may
  | 70 => some v_unit_Check
  | 71 => some v_unit_runs
  | 72 => some v_curve_Value
  | 73 => some v_r02_Check
  | 74 => some v_mk_Gate
  | 75 => some v_dam_asked
  | 76 => some v_storage_Height
  | 77 => some v_slices_IndexFunc_int_int
  | 78 => some v_dam_work_over
  | 81 => some v_r03_Check
  | 82 => some v_r02_at
  | 83 => some v_gate_asked
  | 84 => some v_gate_at
  | 85 => some v_gate_reach
  | 86 => some v_gate_view_flow
  | 87 => some v_cmp_isNaN_int
  | 88 => some v_unit_fits
  | 89 => some v_unit_Flows
  | 92 => some v_r18_May
  | 93 => some v_curve_Check
  | 94 => some v_unit_beyond
  | 95 => some v_dam_Check
  | 96 => some v_dam_fits
  | 97 => some v_curve_Last
  | 98 => some v_dam_crest
  | 99 => some v_gate_Set
  | 100 => some v_dam_work_free
  | 101 => some v_unit_Next
  | 102 => some v_gate_valid
  | 103 => some v_gate_Check
  | 106 => some v_curve_steep
  | 107 => some v_storage_Check
  | 108 => some v_gate_view_enough
  | 110 => some v_gate_Set_1
  | 122 => some v_sort_Search
  | 123 => some v_gate_least_1
  | _ => none
theorem all_ok : ∀ f vf, F f = some vf → ∃ fn, Try.prog.funcs[f]? = some fn ∧ okFunc Try.prog prs fn vf = true := fun f vf h => by
  unfold F at h
  split at h
  · cases h; exact ⟨_, Try.func3, ok_w19_DispatchOrder⟩
  · cases h; exact ⟨_, Try.func4, ok_w19_DispatchBest⟩
  · cases h; exact ⟨_, Try.func5, ok_w19_DispatchGreatest⟩
  · cases h; exact ⟨_, Try.func6, ok_w19_DispatchTurns⟩
  · cases h; exact ⟨_, Try.func7, ok_w19_DispatchMore⟩
  · cases h; exact ⟨_, Try.func8, ok_w22_DamMore⟩
  · cases h; exact ⟨_, Try.func10, ok_mk_New⟩
  · cases h; exact ⟨_, Try.func11, ok_mk_Deck_Next⟩
  · cases h; exact ⟨_, Try.func12, ok_mk_Flows⟩
  · cases h; exact ⟨_, Try.func13, ok_dispatch_Better⟩
  · cases h; exact ⟨_, Try.func14, ok_r01_Same⟩
  · cases h; exact ⟨_, Try.func15, ok_w19_awake⟩
  · cases h; exact ⟨_, Try.func16, ok_mk_Units⟩
  · cases h; exact ⟨_, Try.func17, ok_w19_light⟩
  · cases h; exact ⟨_, Try.func18, ok_dispatch_Best⟩
  · cases h; exact ⟨_, Try.func19, ok_r19_Best⟩
  · cases h; exact ⟨_, Try.func20, ok_dispatch_Range⟩
  · cases h; exact ⟨_, Try.func21, ok_r19_Range⟩
  · cases h; exact ⟨_, Try.func22, ok_dispatch_Value⟩
  · cases h; exact ⟨_, Try.func23, ok_r18_Flows⟩
  · cases h; exact ⟨_, Try.func24, ok_mk_Mod⟩
  · cases h; exact ⟨_, Try.func25, ok_mk_Unit⟩
  · cases h; exact ⟨_, Try.func26, ok_mk_Dam⟩
  · cases h; exact ⟨_, Try.func27, ok_dam_Step⟩
  · cases h; exact ⟨_, Try.func28, ok_r03_Volume⟩
  · cases h; exact ⟨_, Try.func29, ok_w22_awake⟩
  · cases h; exact ⟨_, Try.func30, ok_dam_Can⟩
  · cases h; exact ⟨_, Try.func31, ok_slices_Compare_int_int⟩
  · cases h; exact ⟨_, Try.func32, ok_dispatch_Check⟩
  · cases h; exact ⟨_, Try.func33, ok_mk_UnitState⟩
  · cases h; exact ⟨_, Try.func34, ok_r18_Valid⟩
  · cases h; exact ⟨_, Try.func35, ok_r19_Count⟩
  · cases h; exact ⟨_, Try.func36, ok_dispatch_station⟩
  · cases h; exact ⟨_, Try.func37, ok_dispatch_Best_1⟩
  · cases h; exact ⟨_, Try.func38, ok_r19_wrong⟩
  · cases h; exact ⟨_, Try.func39, ok_r01_In⟩
  · cases h; exact ⟨_, Try.func40, ok_r19_all⟩
  · cases h; exact ⟨_, Try.func41, ok_r19_Value⟩
  · cases h; exact ⟨_, Try.func42, ok_r19_Better⟩
  · cases h; exact ⟨_, Try.func43, ok_unit_May⟩
  · cases h; exact ⟨_, Try.func44, ok_unit_Power⟩
  · cases h; exact ⟨_, Try.func45, ok_r18_Check⟩
  · cases h; exact ⟨_, Try.func46, ok_r18_inside⟩
  · cases h; exact ⟨_, Try.func47, ok_mk_Curve⟩
  · cases h; exact ⟨_, Try.func48, ok_mk_Reservoir⟩
  · cases h; exact ⟨_, Try.func49, ok_mk_Gates⟩
  · cases h; exact ⟨_, Try.func50, ok_dam_Level⟩
  · cases h; exact ⟨_, Try.func51, ok_slices_ContainsFunc_int_int⟩
  · cases h; exact ⟨_, Try.func52, ok_dam_Step_1⟩
  · cases h; exact ⟨_, Try.func53, ok_quantity_Within⟩
  · cases h; exact ⟨_, Try.func55, ok_r03_wrong⟩
  · cases h; exact ⟨_, Try.func56, ok_r02_At⟩
  · cases h; exact ⟨_, Try.func57, ok_dam_Flow⟩
  · cases h; exact ⟨_, Try.func58, ok_gate_Range⟩
  · cases h; exact ⟨_, Try.func59, ok_cmp_Compare_int⟩
  · cases h; exact ⟨_, Try.func60, ok_slices_Equal_int_int⟩
  · cases h; exact ⟨_, Try.func61, ok_r18_Runs⟩
  · cases h; exact ⟨_, Try.func62, ok_unit_Valid⟩
  · cases h; exact ⟨_, Try.func63, ok_dispatch_choices⟩
  · cases h; exact ⟨_, Try.func64, ok_r01_in⟩
  · cases h; exact ⟨_, Try.func65, ok_r19_options⟩
  · cases h; exact ⟨_, Try.func66, ok_r18_Next⟩
  · cases h; exact ⟨_, Try.func67, ok_r18_Power⟩
  · cases h; exact ⟨_, Try.func68, ok_r19_before⟩
  · cases h; exact ⟨_, Try.func69, ok_unit_may⟩
  · cases h; exact ⟨_, Try.func70, ok_unit_Check⟩
  · cases h; exact ⟨_, Try.func71, ok_unit_runs⟩
  · cases h; exact ⟨_, Try.func72, ok_curve_Value⟩
  · cases h; exact ⟨_, Try.func73, ok_r02_Check⟩
  · cases h; exact ⟨_, Try.func74, ok_mk_Gate⟩
  · cases h; exact ⟨_, Try.func75, ok_dam_asked⟩
  · cases h; exact ⟨_, Try.func76, ok_storage_Height⟩
  · cases h; exact ⟨_, Try.func77, ok_slices_IndexFunc_int_int⟩
  · cases h; exact ⟨_, Try.func78, ok_dam_work_over⟩
  · cases h; exact ⟨_, Try.func81, ok_r03_Check⟩
  · cases h; exact ⟨_, Try.func82, ok_r02_at⟩
  · cases h; exact ⟨_, Try.func83, ok_gate_asked⟩
  · cases h; exact ⟨_, Try.func84, ok_gate_at⟩
  · cases h; exact ⟨_, Try.func85, ok_gate_reach⟩
  · cases h; exact ⟨_, Try.func86, ok_gate_view_flow⟩
  · cases h; exact ⟨_, Try.func87, ok_cmp_isNaN_int⟩
  · cases h; exact ⟨_, Try.func88, ok_unit_fits⟩
  · cases h; exact ⟨_, Try.func89, ok_unit_Flows⟩
  · cases h; exact ⟨_, Try.func92, ok_r18_May⟩
  · cases h; exact ⟨_, Try.func93, ok_curve_Check⟩
  · cases h; exact ⟨_, Try.func94, ok_unit_beyond⟩
  · cases h; exact ⟨_, Try.func95, ok_dam_Check⟩
  · cases h; exact ⟨_, Try.func96, ok_dam_fits⟩
  · cases h; exact ⟨_, Try.func97, ok_curve_Last⟩
  · cases h; exact ⟨_, Try.func98, ok_dam_crest⟩
  · cases h; exact ⟨_, Try.func99, ok_gate_Set⟩
  · cases h; exact ⟨_, Try.func100, ok_dam_work_free⟩
  · cases h; exact ⟨_, Try.func101, ok_unit_Next⟩
  · cases h; exact ⟨_, Try.func102, ok_gate_valid⟩
  · cases h; exact ⟨_, Try.func103, ok_gate_Check⟩
  · cases h; exact ⟨_, Try.func106, ok_curve_steep⟩
  · cases h; exact ⟨_, Try.func107, ok_storage_Check⟩
  · cases h; exact ⟨_, Try.func108, ok_gate_view_enough⟩
  · cases h; exact ⟨_, Try.func110, ok_gate_Set_1⟩
  · cases h; exact ⟨_, Try.func122, ok_sort_Search⟩
  · cases h; exact ⟨_, Try.func123, ok_gate_least_1⟩
  · cases h
end Go.Proofs.Ytnnfebjdjjbdaaa
