/- The functions of the program, as the value machine has them, by program. -/
import Derived.Test.YtfjdfnegookkcaaGreatQ0
import Derived.Test.YtfjdfnegookkcaaGreatQ1
import Derived.Test.YtfjdfnegookkcaaGreatProg
namespace Go.Proofs.YtfjdfnegookkcaaGreat
open Go.Vm
set_option maxRecDepth 100000
def prs:List (Nat × Nat):=[(123,0),(124,1)]
theorem ok_w22_DamRuns:okFunc Tryz.prog prs Tryz.f6 v_w22_DamRuns = true:=by kernel_rfl
theorem ok_mk_New:okFunc Tryz.prog prs Tryz.f7 v_mk_New = true:=by kernel_rfl
theorem ok_mk_Dam:okFunc Tryz.prog prs Tryz.f8 v_mk_Dam = true:=by kernel_rfl
theorem ok_r03_Volume:okFunc Tryz.prog prs Tryz.f9 v_r03_Volume = true:=by kernel_rfl
theorem ok_mk_Deck_Next:okFunc Tryz.prog prs Tryz.f10 v_mk_Deck_Next = true:=by kernel_rfl
theorem ok_dam_Step:okFunc Tryz.prog prs Tryz.f11 v_dam_Step = true:=by kernel_rfl
theorem ok_dam_Balance:okFunc Tryz.prog prs Tryz.f12 v_dam_Balance = true:=by kernel_rfl
theorem ok_r22_Valid:okFunc Tryz.prog prs Tryz.f13 v_r22_Valid = true:=by kernel_rfl
theorem ok_dam_Flow:okFunc Tryz.prog prs Tryz.f14 v_dam_Flow = true:=by kernel_rfl
theorem ok_w22_awake:okFunc Tryz.prog prs Tryz.f15 v_w22_awake = true:=by kernel_rfl
theorem ok_dam_Check:okFunc Tryz.prog prs Tryz.f16 v_dam_Check = true:=by kernel_rfl
theorem ok_r22_Check:okFunc Tryz.prog prs Tryz.f17 v_r22_Check = true:=by kernel_rfl
theorem ok_w22_odd:okFunc Tryz.prog prs Tryz.f18 v_w22_odd = true:=by kernel_rfl
theorem ok_dam_Level:okFunc Tryz.prog prs Tryz.f20 v_dam_Level = true:=by kernel_rfl
theorem ok_r22_Level:okFunc Tryz.prog prs Tryz.f21 v_r22_Level = true:=by kernel_rfl
theorem ok_mk_Mod:okFunc Tryz.prog prs Tryz.f25 v_mk_Mod = true:=by kernel_rfl
theorem ok_r22_Step:okFunc Tryz.prog prs Tryz.f26 v_r22_Step = true:=by kernel_rfl
theorem ok_r22_Same:okFunc Tryz.prog prs Tryz.f27 v_r22_Same = true:=by kernel_rfl
theorem ok_mk_Flows:okFunc Tryz.prog prs Tryz.f28 v_mk_Flows = true:=by kernel_rfl
theorem ok_dam_Run:okFunc Tryz.prog prs Tryz.f29 v_dam_Run = true:=by kernel_rfl
theorem ok_r22_SameRecords:okFunc Tryz.prog prs Tryz.f30 v_r22_SameRecords = true:=by kernel_rfl
theorem ok_r22_Run:okFunc Tryz.prog prs Tryz.f31 v_r22_Run = true:=by kernel_rfl
theorem ok_r22_Flow:okFunc Tryz.prog prs Tryz.f32 v_r22_Flow = true:=by kernel_rfl
theorem ok_r22_Balance:okFunc Tryz.prog prs Tryz.f33 v_r22_Balance = true:=by kernel_rfl
theorem ok_mk_Reservoir:okFunc Tryz.prog prs Tryz.f34 v_mk_Reservoir = true:=by kernel_rfl
theorem ok_mk_Units:okFunc Tryz.prog prs Tryz.f35 v_mk_Units = true:=by kernel_rfl
theorem ok_mk_Gates:okFunc Tryz.prog prs Tryz.f36 v_mk_Gates = true:=by kernel_rfl
theorem ok_r03_wrong:okFunc Tryz.prog prs Tryz.f37 v_r03_wrong = true:=by kernel_rfl
theorem ok_r02_At:okFunc Tryz.prog prs Tryz.f38 v_r02_At = true:=by kernel_rfl
theorem ok_slices_ContainsFunc_int_int:okFunc Tryz.prog prs Tryz.f39 v_slices_ContainsFunc_int_int = true:=by kernel_rfl
theorem ok_dam_Step_1:okFunc Tryz.prog prs Tryz.f40 v_dam_Step_1 = true:=by kernel_rfl
theorem ok_quantity_Within:okFunc Tryz.prog prs Tryz.f41 v_quantity_Within = true:=by kernel_rfl
theorem ok_dam_work_run:okFunc Tryz.prog prs Tryz.f42 v_dam_work_run = true:=by kernel_rfl
theorem ok_r01_In:okFunc Tryz.prog prs Tryz.f43 v_r01_In = true:=by kernel_rfl
theorem ok_r18_Valid:okFunc Tryz.prog prs Tryz.f44 v_r18_Valid = true:=by kernel_rfl
theorem ok_r20_Valid:okFunc Tryz.prog prs Tryz.f45 v_r20_Valid = true:=by kernel_rfl
theorem ok_storage_Check:okFunc Tryz.prog prs Tryz.f46 v_storage_Check = true:=by kernel_rfl
theorem ok_unit_Check:okFunc Tryz.prog prs Tryz.f47 v_unit_Check = true:=by kernel_rfl
theorem ok_gate_Check:okFunc Tryz.prog prs Tryz.f48 v_gate_Check = true:=by kernel_rfl
theorem ok_r03_Check:okFunc Tryz.prog prs Tryz.f49 v_r03_Check = true:=by kernel_rfl
theorem ok_r18_Check:okFunc Tryz.prog prs Tryz.f50 v_r18_Check = true:=by kernel_rfl
theorem ok_r20_Check:okFunc Tryz.prog prs Tryz.f51 v_r20_Check = true:=by kernel_rfl
theorem ok_dam_asked:okFunc Tryz.prog prs Tryz.f53 v_dam_asked = true:=by kernel_rfl
theorem ok_storage_Height:okFunc Tryz.prog prs Tryz.f54 v_storage_Height = true:=by kernel_rfl
theorem ok_r22_wrong:okFunc Tryz.prog prs Tryz.f55 v_r22_wrong = true:=by kernel_rfl
theorem ok_r03_Level:okFunc Tryz.prog prs Tryz.f56 v_r03_Level = true:=by kernel_rfl
theorem ok_gate_Range:okFunc Tryz.prog prs Tryz.f58 v_gate_Range = true:=by kernel_rfl
theorem ok_dam_fits:okFunc Tryz.prog prs Tryz.f61 v_dam_fits = true:=by kernel_rfl
theorem ok_r22_units:okFunc Tryz.prog prs Tryz.f62 v_r22_units = true:=by kernel_rfl
theorem ok_r20_Set:okFunc Tryz.prog prs Tryz.f63 v_r20_Set = true:=by kernel_rfl
theorem ok_r20_Same:okFunc Tryz.prog prs Tryz.f64 v_r20_Same = true:=by kernel_rfl
theorem ok_slices_Clone_api_UnitState_api_UnitState:okFunc Tryz.prog prs Tryz.f65 v_slices_Clone_api_UnitState_api_UnitState = true:=by kernel_rfl
theorem ok_slices_Clone_api_GateState_api_GateState:okFunc Tryz.prog prs Tryz.f66 v_slices_Clone_api_GateState_api_GateState = true:=by kernel_rfl
theorem ok_mk_Curve:okFunc Tryz.prog prs Tryz.f67 v_mk_Curve = true:=by kernel_rfl
theorem ok_mk_Unit:okFunc Tryz.prog prs Tryz.f68 v_mk_Unit = true:=by kernel_rfl
theorem ok_mk_UnitState:okFunc Tryz.prog prs Tryz.f69 v_mk_UnitState = true:=by kernel_rfl
theorem ok_mk_Gate:okFunc Tryz.prog prs Tryz.f70 v_mk_Gate = true:=by kernel_rfl
theorem ok_r02_Check:okFunc Tryz.prog prs Tryz.f71 v_r02_Check = true:=by kernel_rfl
theorem ok_r02_at:okFunc Tryz.prog prs Tryz.f72 v_r02_at = true:=by kernel_rfl
theorem ok_slices_IndexFunc_int_int:okFunc Tryz.prog prs Tryz.f73 v_slices_IndexFunc_int_int = true:=by kernel_rfl
theorem ok_dam_work_over:okFunc Tryz.prog prs Tryz.f74 v_dam_work_over = true:=by kernel_rfl
theorem ok_dam_work_gates:okFunc Tryz.prog prs Tryz.f75 v_dam_work_gates = true:=by kernel_rfl
theorem ok_dam_work_turbines:okFunc Tryz.prog prs Tryz.f76 v_dam_work_turbines = true:=by kernel_rfl
theorem ok_r01_in:okFunc Tryz.prog prs Tryz.f77 v_r01_in = true:=by kernel_rfl
theorem ok_r18_Runs:okFunc Tryz.prog prs Tryz.f78 v_r18_Runs = true:=by kernel_rfl
theorem ok_curve_Check:okFunc Tryz.prog prs Tryz.f79 v_curve_Check = true:=by kernel_rfl
theorem ok_r19_all:okFunc Tryz.prog prs Tryz.f80 v_r19_all = true:=by kernel_rfl
theorem ok_curve_Last:okFunc Tryz.prog prs Tryz.f81 v_curve_Last = true:=by kernel_rfl
theorem ok_r02_Last:okFunc Tryz.prog prs Tryz.f82 v_r02_Last = true:=by kernel_rfl
theorem ok_dispatch_station:okFunc Tryz.prog prs Tryz.f83 v_dispatch_station = true:=by kernel_rfl
theorem ok_gate_asked:okFunc Tryz.prog prs Tryz.f84 v_gate_asked = true:=by kernel_rfl
theorem ok_gate_at:okFunc Tryz.prog prs Tryz.f85 v_gate_at = true:=by kernel_rfl
theorem ok_gate_reach:okFunc Tryz.prog prs Tryz.f86 v_gate_reach = true:=by kernel_rfl
theorem ok_gate_view_flow:okFunc Tryz.prog prs Tryz.f87 v_gate_view_flow = true:=by kernel_rfl
theorem ok_r19_wrong:okFunc Tryz.prog prs Tryz.f88 v_r19_wrong = true:=by kernel_rfl
theorem ok_r20_wrong:okFunc Tryz.prog prs Tryz.f89 v_r20_wrong = true:=by kernel_rfl
theorem ok_r20_ends:okFunc Tryz.prog prs Tryz.f90 v_r20_ends = true:=by kernel_rfl
theorem ok_r20_total:okFunc Tryz.prog prs Tryz.f91 v_r20_total = true:=by kernel_rfl
theorem ok_dam_crest:okFunc Tryz.prog prs Tryz.f92 v_dam_crest = true:=by kernel_rfl
theorem ok_unit_Valid:okFunc Tryz.prog prs Tryz.f93 v_unit_Valid = true:=by kernel_rfl
theorem ok_r19_Best:okFunc Tryz.prog prs Tryz.f94 v_r19_Best = true:=by kernel_rfl
theorem ok_r19_Value:okFunc Tryz.prog prs Tryz.f95 v_r19_Value = true:=by kernel_rfl
theorem ok_r18_Next:okFunc Tryz.prog prs Tryz.f96 v_r18_Next = true:=by kernel_rfl
theorem ok_r18_Flows:okFunc Tryz.prog prs Tryz.f97 v_r18_Flows = true:=by kernel_rfl
theorem ok_gate_Set:okFunc Tryz.prog prs Tryz.f98 v_gate_Set = true:=by kernel_rfl
theorem ok_dam_work_free:okFunc Tryz.prog prs Tryz.f99 v_dam_work_free = true:=by kernel_rfl
theorem ok_dispatch_Best:okFunc Tryz.prog prs Tryz.f100 v_dispatch_Best = true:=by kernel_rfl
theorem ok_unit_Next:okFunc Tryz.prog prs Tryz.f101 v_unit_Next = true:=by kernel_rfl
theorem ok_unit_Power:okFunc Tryz.prog prs Tryz.f102 v_unit_Power = true:=by kernel_rfl
theorem ok_r18_inside:okFunc Tryz.prog prs Tryz.f103 v_r18_inside = true:=by kernel_rfl
theorem ok_curve_steep:okFunc Tryz.prog prs Tryz.f104 v_curve_steep = true:=by kernel_rfl
theorem ok_r19_options:okFunc Tryz.prog prs Tryz.f105 v_r19_options = true:=by kernel_rfl
theorem ok_dispatch_choices:okFunc Tryz.prog prs Tryz.f106 v_dispatch_choices = true:=by kernel_rfl
theorem ok_gate_valid:okFunc Tryz.prog prs Tryz.f107 v_gate_valid = true:=by kernel_rfl
theorem ok_curve_Value:okFunc Tryz.prog prs Tryz.f108 v_curve_Value = true:=by kernel_rfl
theorem ok_r20_reach:okFunc Tryz.prog prs Tryz.f109 v_r20_reach = true:=by kernel_rfl
theorem ok_r20_flow:okFunc Tryz.prog prs Tryz.f110 v_r20_flow = true:=by kernel_rfl
theorem ok_unit_fits:okFunc Tryz.prog prs Tryz.f111 v_unit_fits = true:=by kernel_rfl
theorem ok_r19_Better:okFunc Tryz.prog prs Tryz.f112 v_r19_Better = true:=by kernel_rfl
theorem ok_r18_Power:okFunc Tryz.prog prs Tryz.f113 v_r18_Power = true:=by kernel_rfl
theorem ok_r18_May:okFunc Tryz.prog prs Tryz.f114 v_r18_May = true:=by kernel_rfl
theorem ok_gate_view_enough:okFunc Tryz.prog prs Tryz.f115 v_gate_view_enough = true:=by kernel_rfl
theorem ok_gate_least:okFunc Tryz.prog prs Tryz.f116 v_gate_least = true:=by kernel_rfl
theorem ok_gate_Set_1:okFunc Tryz.prog prs Tryz.f117 v_gate_Set_1 = true:=by kernel_rfl
theorem ok_dispatch_Best_1:okFunc Tryz.prog prs Tryz.f118 v_dispatch_Best_1 = true:=by kernel_rfl
theorem ok_dispatch_Better:okFunc Tryz.prog prs Tryz.f119 v_dispatch_Better = true:=by kernel_rfl
theorem ok_unit_may:okFunc Tryz.prog prs Tryz.f120 v_unit_may = true:=by kernel_rfl
theorem ok_unit_runs:okFunc Tryz.prog prs Tryz.f121 v_unit_runs = true:=by kernel_rfl
theorem ok_unit_Flows:okFunc Tryz.prog prs Tryz.f122 v_unit_Flows = true:=by kernel_rfl
theorem ok_unit_May:okFunc Tryz.prog prs Tryz.f125 v_unit_May = true:=by kernel_rfl
theorem ok_r19_before:okFunc Tryz.prog prs Tryz.f126 v_r19_before = true:=by kernel_rfl
theorem ok_sort_Search:okFunc Tryz.prog prs Tryz.f127 v_sort_Search = true:=by kernel_rfl
theorem ok_gate_least_1:okFunc Tryz.prog prs Tryz.f128 v_gate_least_1 = true:=by kernel_rfl
theorem ok_slices_Compare_int_int:okFunc Tryz.prog prs Tryz.f129 v_slices_Compare_int_int = true:=by kernel_rfl
theorem ok_unit_beyond:okFunc Tryz.prog prs Tryz.f130 v_unit_beyond = true:=by kernel_rfl
theorem ok_cmp_Compare_int:okFunc Tryz.prog prs Tryz.f133 v_cmp_Compare_int = true:=by kernel_rfl
theorem ok_cmp_isNaN_int:okFunc Tryz.prog prs Tryz.f145 v_cmp_isNaN_int = true:=by kernel_rfl
def F:FuncId → Option VFunc
 | 6 => some v_w22_DamRuns
 | 7 => some v_mk_New
 | 8 => some v_mk_Dam
 | 9 => some v_r03_Volume
 | 10 => some v_mk_Deck_Next
 | 11 => some v_dam_Step
 | 12 => some v_dam_Balance
 | 13 => some v_r22_Valid
 | 14 => some v_dam_Flow
 | 15 => some v_w22_awake
 | 16 => some v_dam_Check
 | 17 => some v_r22_Check
 | 18 => some v_w22_odd
 | 20 => some v_dam_Level
 | 21 => some v_r22_Level
 | 25 => some v_mk_Mod
 | 26 => some v_r22_Step
 | 27 => some v_r22_Same
 | 28 => some v_mk_Flows
 | 29 => some v_dam_Run
 | 30 => some v_r22_SameRecords
 | 31 => some v_r22_Run
 | 32 => some v_r22_Flow
 | 33 => some v_r22_Balance
 | 34 => some v_mk_Reservoir
 | 35 => some v_mk_Units
 | 36 => some v_mk_Gates
 | 37 => some v_r03_wrong
 | 38 => some v_r02_At
 | 39 => some v_slices_ContainsFunc_int_int
 | 40 => some v_dam_Step_1
 | 41 => some v_quantity_Within
 | 42 => some v_dam_work_run
 | 43 => some v_r01_In
 | 44 => some v_r18_Valid
 | 45 => some v_r20_Valid
 | 46 => some v_storage_Check
 | 47 => some v_unit_Check
 | 48 => some v_gate_Check
 | 49 => some v_r03_Check
 | 50 => some v_r18_Check
 | 51 => some v_r20_Check
 | 53 => some v_dam_asked
 | 54 => some v_storage_Height
 | 55 => some v_r22_wrong
 | 56 => some v_r03_Level
 | 58 => some v_gate_Range
 | 61 => some v_dam_fits
 | 62 => some v_r22_units
 | 63 => some v_r20_Set
 | 64 => some v_r20_Same
 | 65 => some v_slices_Clone_api_UnitState_api_UnitState
 | 66 => some v_slices_Clone_api_GateState_api_GateState
 | 67 => some v_mk_Curve
 | 68 => some v_mk_Unit
 | 69 => some v_mk_UnitState
 | 70 => some v_mk_Gate
 | 71 => some v_r02_Check
 | 72 => some v_r02_at
 | 73 => some v_slices_IndexFunc_int_int
 | 74 => some v_dam_work_over
 | 75 => some v_dam_work_gates
 | 76 => some v_dam_work_turbines
 | 77 => some v_r01_in
 | 78 => some v_r18_Runs
 | 79 => some v_curve_Check
 | 80 => some v_r19_all
 | 81 => some v_curve_Last
 | 82 => some v_r02_Last
 | 83 => some v_dispatch_station
 | 84 => some v_gate_asked
 | 85 => some v_gate_at
 | 86 => some v_gate_reach
 | 87 => some v_gate_view_flow
 | 88 => some v_r19_wrong
 | 89 => some v_r20_wrong
 | 90 => some v_r20_ends
 | 91 => some v_r20_total
 | 92 => some v_dam_crest
 | 93 => some v_unit_Valid
 | 94 => some v_r19_Best
 | 95 => some v_r19_Value
 | 96 => some v_r18_Next
 | 97 => some v_r18_Flows
 | 98 => some v_gate_Set
 | 99 => some v_dam_work_free
 | 100 => some v_dispatch_Best
 | 101 => some v_unit_Next
 | 102 => some v_unit_Power
 | 103 => some v_r18_inside
 | 104 => some v_curve_steep
 | 105 => some v_r19_options
 | 106 => some v_dispatch_choices
 | 107 => some v_gate_valid
 | 108 => some v_curve_Value
 | 109 => some v_r20_reach
 | 110 => some v_r20_flow
 | 111 => some v_unit_fits
 | 112 => some v_r19_Better
 | 113 => some v_r18_Power
 | 114 => some v_r18_May
 | 115 => some v_gate_view_enough
 | 116 => some v_gate_least
 | 117 => some v_gate_Set_1
 | 118 => some v_dispatch_Best_1
 | 119 => some v_dispatch_Better
 | 120 => some v_unit_may
 | 121 => some v_unit_runs
 | 122 => some v_unit_Flows
 | 125 => some v_unit_May
 | 126 => some v_r19_before
 | 127 => some v_sort_Search
 | 128 => some v_gate_least_1
 | 129 => some v_slices_Compare_int_int
 | 130 => some v_unit_beyond
 | 133 => some v_cmp_Compare_int
 | 145 => some v_cmp_isNaN_int
 | _ => none
theorem all_ok:∀ f vf,F f = some vf → ∃ fn,Tryz.prog.funcs[f]? = some fn ∧ okFunc Tryz.prog prs fn vf = true:=fun f vf h => by
 unfold F at h
 split at h
 ·cases h;exact ⟨_,Tryz.func6,ok_w22_DamRuns⟩
 ·cases h;exact ⟨_,Tryz.func7,ok_mk_New⟩
 ·cases h;exact ⟨_,Tryz.func8,ok_mk_Dam⟩
 ·cases h;exact ⟨_,Tryz.func9,ok_r03_Volume⟩
 ·cases h;exact ⟨_,Tryz.func10,ok_mk_Deck_Next⟩
 ·cases h;exact ⟨_,Tryz.func11,ok_dam_Step⟩
 ·cases h;exact ⟨_,Tryz.func12,ok_dam_Balance⟩
 ·cases h;exact ⟨_,Tryz.func13,ok_r22_Valid⟩
 ·cases h;exact ⟨_,Tryz.func14,ok_dam_Flow⟩
 ·cases h;exact ⟨_,Tryz.func15,ok_w22_awake⟩
 ·cases h;exact ⟨_,Tryz.func16,ok_dam_Check⟩
 ·cases h;exact ⟨_,Tryz.func17,ok_r22_Check⟩
 ·cases h;exact ⟨_,Tryz.func18,ok_w22_odd⟩
 ·cases h;exact ⟨_,Tryz.func20,ok_dam_Level⟩
 ·cases h;exact ⟨_,Tryz.func21,ok_r22_Level⟩
 ·cases h;exact ⟨_,Tryz.func25,ok_mk_Mod⟩
 ·cases h;exact ⟨_,Tryz.func26,ok_r22_Step⟩
 ·cases h;exact ⟨_,Tryz.func27,ok_r22_Same⟩
 ·cases h;exact ⟨_,Tryz.func28,ok_mk_Flows⟩
 ·cases h;exact ⟨_,Tryz.func29,ok_dam_Run⟩
 ·cases h;exact ⟨_,Tryz.func30,ok_r22_SameRecords⟩
 ·cases h;exact ⟨_,Tryz.func31,ok_r22_Run⟩
 ·cases h;exact ⟨_,Tryz.func32,ok_r22_Flow⟩
 ·cases h;exact ⟨_,Tryz.func33,ok_r22_Balance⟩
 ·cases h;exact ⟨_,Tryz.func34,ok_mk_Reservoir⟩
 ·cases h;exact ⟨_,Tryz.func35,ok_mk_Units⟩
 ·cases h;exact ⟨_,Tryz.func36,ok_mk_Gates⟩
 ·cases h;exact ⟨_,Tryz.func37,ok_r03_wrong⟩
 ·cases h;exact ⟨_,Tryz.func38,ok_r02_At⟩
 ·cases h;exact ⟨_,Tryz.func39,ok_slices_ContainsFunc_int_int⟩
 ·cases h;exact ⟨_,Tryz.func40,ok_dam_Step_1⟩
 ·cases h;exact ⟨_,Tryz.func41,ok_quantity_Within⟩
 ·cases h;exact ⟨_,Tryz.func42,ok_dam_work_run⟩
 ·cases h;exact ⟨_,Tryz.func43,ok_r01_In⟩
 ·cases h;exact ⟨_,Tryz.func44,ok_r18_Valid⟩
 ·cases h;exact ⟨_,Tryz.func45,ok_r20_Valid⟩
 ·cases h;exact ⟨_,Tryz.func46,ok_storage_Check⟩
 ·cases h;exact ⟨_,Tryz.func47,ok_unit_Check⟩
 ·cases h;exact ⟨_,Tryz.func48,ok_gate_Check⟩
 ·cases h;exact ⟨_,Tryz.func49,ok_r03_Check⟩
 ·cases h;exact ⟨_,Tryz.func50,ok_r18_Check⟩
 ·cases h;exact ⟨_,Tryz.func51,ok_r20_Check⟩
 ·cases h;exact ⟨_,Tryz.func53,ok_dam_asked⟩
 ·cases h;exact ⟨_,Tryz.func54,ok_storage_Height⟩
 ·cases h;exact ⟨_,Tryz.func55,ok_r22_wrong⟩
 ·cases h;exact ⟨_,Tryz.func56,ok_r03_Level⟩
 ·cases h;exact ⟨_,Tryz.func58,ok_gate_Range⟩
 ·cases h;exact ⟨_,Tryz.func61,ok_dam_fits⟩
 ·cases h;exact ⟨_,Tryz.func62,ok_r22_units⟩
 ·cases h;exact ⟨_,Tryz.func63,ok_r20_Set⟩
 ·cases h;exact ⟨_,Tryz.func64,ok_r20_Same⟩
 ·cases h;exact ⟨_,Tryz.func65,ok_slices_Clone_api_UnitState_api_UnitState⟩
 ·cases h;exact ⟨_,Tryz.func66,ok_slices_Clone_api_GateState_api_GateState⟩
 ·cases h;exact ⟨_,Tryz.func67,ok_mk_Curve⟩
 ·cases h;exact ⟨_,Tryz.func68,ok_mk_Unit⟩
 ·cases h;exact ⟨_,Tryz.func69,ok_mk_UnitState⟩
 ·cases h;exact ⟨_,Tryz.func70,ok_mk_Gate⟩
 ·cases h;exact ⟨_,Tryz.func71,ok_r02_Check⟩
 ·cases h;exact ⟨_,Tryz.func72,ok_r02_at⟩
 ·cases h;exact ⟨_,Tryz.func73,ok_slices_IndexFunc_int_int⟩
 ·cases h;exact ⟨_,Tryz.func74,ok_dam_work_over⟩
 ·cases h;exact ⟨_,Tryz.func75,ok_dam_work_gates⟩
 ·cases h;exact ⟨_,Tryz.func76,ok_dam_work_turbines⟩
 ·cases h;exact ⟨_,Tryz.func77,ok_r01_in⟩
 ·cases h;exact ⟨_,Tryz.func78,ok_r18_Runs⟩
 ·cases h;exact ⟨_,Tryz.func79,ok_curve_Check⟩
 ·cases h;exact ⟨_,Tryz.func80,ok_r19_all⟩
 ·cases h;exact ⟨_,Tryz.func81,ok_curve_Last⟩
 ·cases h;exact ⟨_,Tryz.func82,ok_r02_Last⟩
 ·cases h;exact ⟨_,Tryz.func83,ok_dispatch_station⟩
 ·cases h;exact ⟨_,Tryz.func84,ok_gate_asked⟩
 ·cases h;exact ⟨_,Tryz.func85,ok_gate_at⟩
 ·cases h;exact ⟨_,Tryz.func86,ok_gate_reach⟩
 ·cases h;exact ⟨_,Tryz.func87,ok_gate_view_flow⟩
 ·cases h;exact ⟨_,Tryz.func88,ok_r19_wrong⟩
 ·cases h;exact ⟨_,Tryz.func89,ok_r20_wrong⟩
 ·cases h;exact ⟨_,Tryz.func90,ok_r20_ends⟩
 ·cases h;exact ⟨_,Tryz.func91,ok_r20_total⟩
 ·cases h;exact ⟨_,Tryz.func92,ok_dam_crest⟩
 ·cases h;exact ⟨_,Tryz.func93,ok_unit_Valid⟩
 ·cases h;exact ⟨_,Tryz.func94,ok_r19_Best⟩
 ·cases h;exact ⟨_,Tryz.func95,ok_r19_Value⟩
 ·cases h;exact ⟨_,Tryz.func96,ok_r18_Next⟩
 ·cases h;exact ⟨_,Tryz.func97,ok_r18_Flows⟩
 ·cases h;exact ⟨_,Tryz.func98,ok_gate_Set⟩
 ·cases h;exact ⟨_,Tryz.func99,ok_dam_work_free⟩
 ·cases h;exact ⟨_,Tryz.func100,ok_dispatch_Best⟩
 ·cases h;exact ⟨_,Tryz.func101,ok_unit_Next⟩
 ·cases h;exact ⟨_,Tryz.func102,ok_unit_Power⟩
 ·cases h;exact ⟨_,Tryz.func103,ok_r18_inside⟩
 ·cases h;exact ⟨_,Tryz.func104,ok_curve_steep⟩
 ·cases h;exact ⟨_,Tryz.func105,ok_r19_options⟩
 ·cases h;exact ⟨_,Tryz.func106,ok_dispatch_choices⟩
 ·cases h;exact ⟨_,Tryz.func107,ok_gate_valid⟩
 ·cases h;exact ⟨_,Tryz.func108,ok_curve_Value⟩
 ·cases h;exact ⟨_,Tryz.func109,ok_r20_reach⟩
 ·cases h;exact ⟨_,Tryz.func110,ok_r20_flow⟩
 ·cases h;exact ⟨_,Tryz.func111,ok_unit_fits⟩
 ·cases h;exact ⟨_,Tryz.func112,ok_r19_Better⟩
 ·cases h;exact ⟨_,Tryz.func113,ok_r18_Power⟩
 ·cases h;exact ⟨_,Tryz.func114,ok_r18_May⟩
 ·cases h;exact ⟨_,Tryz.func115,ok_gate_view_enough⟩
 ·cases h;exact ⟨_,Tryz.func116,ok_gate_least⟩
 ·cases h;exact ⟨_,Tryz.func117,ok_gate_Set_1⟩
 ·cases h;exact ⟨_,Tryz.func118,ok_dispatch_Best_1⟩
 ·cases h;exact ⟨_,Tryz.func119,ok_dispatch_Better⟩
 ·cases h;exact ⟨_,Tryz.func120,ok_unit_may⟩
 ·cases h;exact ⟨_,Tryz.func121,ok_unit_runs⟩
 ·cases h;exact ⟨_,Tryz.func122,ok_unit_Flows⟩
 ·cases h;exact ⟨_,Tryz.func125,ok_unit_May⟩
 ·cases h;exact ⟨_,Tryz.func126,ok_r19_before⟩
 ·cases h;exact ⟨_,Tryz.func127,ok_sort_Search⟩
 ·cases h;exact ⟨_,Tryz.func128,ok_gate_least_1⟩
 ·cases h;exact ⟨_,Tryz.func129,ok_slices_Compare_int_int⟩
 ·cases h;exact ⟨_,Tryz.func130,ok_unit_beyond⟩
 ·cases h;exact ⟨_,Tryz.func133,ok_cmp_Compare_int⟩
 ·cases h;exact ⟨_,Tryz.func145,ok_cmp_isNaN_int⟩
 ·cases h
end Go.Proofs.YtfjdfnegookkcaaGreat
