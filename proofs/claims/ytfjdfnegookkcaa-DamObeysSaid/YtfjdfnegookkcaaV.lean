/-
  The functions of the program, as the value machine has them, by program.
-/
import Derived.Test.YtfjdfnegookkcaaW0
import Derived.Test.YtfjdfnegookkcaaW1
import Derived.Test.YtfjdfnegookkcaaProg
namespace Go.Proofs.Ytfjdfnegookkcaa
open Go.Vm
set_option maxRecDepth 100000
def prs : List (Nat × Nat) := [(75, 0), (76, 1)]
theorem ok_w22_DamMore : okFunc Try.prog prs Try.f3 v_w22_DamMore = true := by kernel_rfl
theorem ok_w22_DamObeys : okFunc Try.prog prs Try.f4 v_w22_DamObeys = true := by kernel_rfl
theorem ok_mk_New : okFunc Try.prog prs Try.f5 v_mk_New = true := by kernel_rfl
theorem ok_mk_Dam : okFunc Try.prog prs Try.f6 v_mk_Dam = true := by kernel_rfl
theorem ok_mk_Deck_Next : okFunc Try.prog prs Try.f7 v_mk_Deck_Next = true := by kernel_rfl
theorem ok_dam_Step : okFunc Try.prog prs Try.f8 v_dam_Step = true := by kernel_rfl
theorem ok_mk_Mod : okFunc Try.prog prs Try.f9 v_mk_Mod = true := by kernel_rfl
theorem ok_r03_Volume : okFunc Try.prog prs Try.f10 v_r03_Volume = true := by kernel_rfl
theorem ok_w22_awake : okFunc Try.prog prs Try.f11 v_w22_awake = true := by kernel_rfl
theorem ok_dam_Can : okFunc Try.prog prs Try.f12 v_dam_Can = true := by kernel_rfl
theorem ok_mk_Reservoir : okFunc Try.prog prs Try.f13 v_mk_Reservoir = true := by kernel_rfl
theorem ok_mk_Units : okFunc Try.prog prs Try.f14 v_mk_Units = true := by kernel_rfl
theorem ok_mk_Gates : okFunc Try.prog prs Try.f15 v_mk_Gates = true := by kernel_rfl
theorem ok_dam_Level : okFunc Try.prog prs Try.f16 v_dam_Level = true := by kernel_rfl
theorem ok_slices_ContainsFunc_int_int : okFunc Try.prog prs Try.f17 v_slices_ContainsFunc_int_int = true := by kernel_rfl
theorem ok_dam_Step_1 : okFunc Try.prog prs Try.f18 v_dam_Step_1 = true := by kernel_rfl
theorem ok_quantity_Within : okFunc Try.prog prs Try.f19 v_quantity_Within = true := by kernel_rfl
theorem ok_dam_work_run : okFunc Try.prog prs Try.f20 v_dam_work_run = true := by kernel_rfl
theorem ok_r03_wrong : okFunc Try.prog prs Try.f21 v_r03_wrong = true := by kernel_rfl
theorem ok_r02_At : okFunc Try.prog prs Try.f22 v_r02_At = true := by kernel_rfl
theorem ok_dam_Flow : okFunc Try.prog prs Try.f23 v_dam_Flow = true := by kernel_rfl
theorem ok_dispatch_Range : okFunc Try.prog prs Try.f24 v_dispatch_Range = true := by kernel_rfl
theorem ok_gate_Range : okFunc Try.prog prs Try.f25 v_gate_Range = true := by kernel_rfl
theorem ok_mk_Curve : okFunc Try.prog prs Try.f26 v_mk_Curve = true := by kernel_rfl
theorem ok_mk_Unit : okFunc Try.prog prs Try.f27 v_mk_Unit = true := by kernel_rfl
theorem ok_mk_UnitState : okFunc Try.prog prs Try.f28 v_mk_UnitState = true := by kernel_rfl
theorem ok_mk_Gate : okFunc Try.prog prs Try.f29 v_mk_Gate = true := by kernel_rfl
theorem ok_dam_asked : okFunc Try.prog prs Try.f30 v_dam_asked = true := by kernel_rfl
theorem ok_storage_Height : okFunc Try.prog prs Try.f31 v_storage_Height = true := by kernel_rfl
theorem ok_slices_IndexFunc_int_int : okFunc Try.prog prs Try.f32 v_slices_IndexFunc_int_int = true := by kernel_rfl
theorem ok_dam_work_over : okFunc Try.prog prs Try.f33 v_dam_work_over = true := by kernel_rfl
theorem ok_dam_work_gates : okFunc Try.prog prs Try.f34 v_dam_work_gates = true := by kernel_rfl
theorem ok_dam_work_turbines : okFunc Try.prog prs Try.f35 v_dam_work_turbines = true := by kernel_rfl
theorem ok_r03_Check : okFunc Try.prog prs Try.f36 v_r03_Check = true := by kernel_rfl
theorem ok_r01_In : okFunc Try.prog prs Try.f37 v_r01_In = true := by kernel_rfl
theorem ok_r02_Check : okFunc Try.prog prs Try.f38 v_r02_Check = true := by kernel_rfl
theorem ok_r02_at : okFunc Try.prog prs Try.f39 v_r02_at = true := by kernel_rfl
theorem ok_dispatch_station : okFunc Try.prog prs Try.f40 v_dispatch_station = true := by kernel_rfl
theorem ok_gate_asked : okFunc Try.prog prs Try.f41 v_gate_asked = true := by kernel_rfl
theorem ok_gate_at : okFunc Try.prog prs Try.f42 v_gate_at = true := by kernel_rfl
theorem ok_gate_reach : okFunc Try.prog prs Try.f43 v_gate_reach = true := by kernel_rfl
theorem ok_gate_view_flow : okFunc Try.prog prs Try.f44 v_gate_view_flow = true := by kernel_rfl
theorem ok_r18_Flows : okFunc Try.prog prs Try.f45 v_r18_Flows = true := by kernel_rfl
theorem ok_dam_Check : okFunc Try.prog prs Try.f46 v_dam_Check = true := by kernel_rfl
theorem ok_dam_fits : okFunc Try.prog prs Try.f47 v_dam_fits = true := by kernel_rfl
theorem ok_curve_Last : okFunc Try.prog prs Try.f48 v_curve_Last = true := by kernel_rfl
theorem ok_dam_crest : okFunc Try.prog prs Try.f49 v_dam_crest = true := by kernel_rfl
theorem ok_gate_Set : okFunc Try.prog prs Try.f50 v_gate_Set = true := by kernel_rfl
theorem ok_dam_work_free : okFunc Try.prog prs Try.f51 v_dam_work_free = true := by kernel_rfl
theorem ok_dispatch_Best : okFunc Try.prog prs Try.f52 v_dispatch_Best = true := by kernel_rfl
theorem ok_unit_Next : okFunc Try.prog prs Try.f53 v_unit_Next = true := by kernel_rfl
theorem ok_unit_Power : okFunc Try.prog prs Try.f54 v_unit_Power = true := by kernel_rfl
theorem ok_r01_in : okFunc Try.prog prs Try.f55 v_r01_in = true := by kernel_rfl
theorem ok_unit_Valid : okFunc Try.prog prs Try.f56 v_unit_Valid = true := by kernel_rfl
theorem ok_dispatch_choices : okFunc Try.prog prs Try.f57 v_dispatch_choices = true := by kernel_rfl
theorem ok_gate_valid : okFunc Try.prog prs Try.f58 v_gate_valid = true := by kernel_rfl
theorem ok_gate_Check : okFunc Try.prog prs Try.f59 v_gate_Check = true := by kernel_rfl
theorem ok_curve_Value : okFunc Try.prog prs Try.f60 v_curve_Value = true := by kernel_rfl
theorem ok_r18_Check : okFunc Try.prog prs Try.f61 v_r18_Check = true := by kernel_rfl
theorem ok_r18_inside : okFunc Try.prog prs Try.f62 v_r18_inside = true := by kernel_rfl
theorem ok_storage_Check : okFunc Try.prog prs Try.f63 v_storage_Check = true := by kernel_rfl
theorem ok_unit_Check : okFunc Try.prog prs Try.f64 v_unit_Check = true := by kernel_rfl
theorem ok_curve_Check : okFunc Try.prog prs Try.f65 v_curve_Check = true := by kernel_rfl
theorem ok_gate_view_enough : okFunc Try.prog prs Try.f66 v_gate_view_enough = true := by kernel_rfl
theorem ok_gate_least : okFunc Try.prog prs Try.f67 v_gate_least = true := by kernel_rfl
theorem ok_gate_Set_1 : okFunc Try.prog prs Try.f68 v_gate_Set_1 = true := by kernel_rfl
theorem ok_dispatch_Best_1 : okFunc Try.prog prs Try.f69 v_dispatch_Best_1 = true := by kernel_rfl
theorem ok_dispatch_Better : okFunc Try.prog prs Try.f70 v_dispatch_Better = true := by kernel_rfl
theorem ok_unit_fits : okFunc Try.prog prs Try.f71 v_unit_fits = true := by kernel_rfl
theorem ok_unit_may : okFunc Try.prog prs Try.f72 v_unit_may = true := by kernel_rfl
theorem ok_unit_runs : okFunc Try.prog prs Try.f73 v_unit_runs = true := by kernel_rfl
theorem ok_unit_Flows : okFunc Try.prog prs Try.f74 v_unit_Flows = true := by kernel_rfl
theorem ok_unit_May : okFunc Try.prog prs Try.f77 v_unit_May = true := by kernel_rfl
theorem ok_curve_steep : okFunc Try.prog prs Try.f78 v_curve_steep = true := by kernel_rfl
theorem ok_sort_Search : okFunc Try.prog prs Try.f79 v_sort_Search = true := by kernel_rfl
theorem ok_gate_least_1 : okFunc Try.prog prs Try.f80 v_gate_least_1 = true := by kernel_rfl
theorem ok_slices_Compare_int_int : okFunc Try.prog prs Try.f81 v_slices_Compare_int_int = true := by kernel_rfl
theorem ok_unit_beyond : okFunc Try.prog prs Try.f82 v_unit_beyond = true := by kernel_rfl
theorem ok_cmp_Compare_int : okFunc Try.prog prs Try.f85 v_cmp_Compare_int = true := by kernel_rfl
theorem ok_cmp_isNaN_int : okFunc Try.prog prs Try.f97 v_cmp_isNaN_int = true := by kernel_rfl
def F : FuncId → Option VFunc
  | 3 => some v_w22_DamMore
  | 4 => some v_w22_DamObeys
  | 5 => some v_mk_New
  | 6 => some v_mk_Dam
  | 7 => some v_mk_Deck_Next
  | 8 => some v_dam_Step
  | 9 => some v_mk_Mod
  | 10 => some v_r03_Volume
  | 11 => some v_w22_awake
  | 12 => some v_dam_Can
  | 13 => some v_mk_Reservoir
  | 14 => some v_mk_Units
  | 15 => some v_mk_Gates
  | 16 => some v_dam_Level
  | 17 => some v_slices_ContainsFunc_int_int
  | 18 => some v_dam_Step_1
  | 19 => some v_quantity_Within
  | 20 => some v_dam_work_run
  | 21 => some v_r03_wrong
  | 22 => some v_r02_At
  | 23 => some v_dam_Flow
  | 24 => some v_dispatch_Range
  | 25 => some v_gate_Range
  | 26 => some v_mk_Curve
  | 27 => some v_mk_Unit
  | 28 => some v_mk_UnitState
  | 29 => some v_mk_Gate
  | 30 => some v_dam_asked
  | 31 => some v_storage_Height
  | 32 => some v_slices_IndexFunc_int_int
  | 33 => some v_dam_work_over
  | 34 => some v_dam_work_gates
  | 35 => some v_dam_work_turbines
  | 36 => some v_r03_Check
  | 37 => some v_r01_In
  | 38 => some v_r02_Check
  | 39 => some v_r02_at
  | 40 => some v_dispatch_station
  | 41 => some v_gate_asked
  | 42 => some v_gate_at
  | 43 => some v_gate_reach
  | 44 => some v_gate_view_flow
  | 45 => some v_r18_Flows
  | 46 => some v_dam_Check
  | 47 => some v_dam_fits
  | 48 => some v_curve_Last
  | 49 => some v_dam_crest
  | 50 => some v_gate_Set
  | 51 => some v_dam_work_free
  | 52 => some v_dispatch_Best
  | 53 => some v_unit_Next
  | 54 => some v_unit_Power
  | 55 => some v_r01_in
  | 56 => some v_unit_Valid
  | 57 => some v_dispatch_choices
  | 58 => some v_gate_valid
  | 59 => some v_gate_Check
  | 60 => some v_curve_Value
  | 61 => some v_r18_Check
  | 62 => some v_r18_inside
  | 63 => some v_storage_Check
  | 64 => some v_unit_Check
  | 65 => some v_curve_Check
  | 66 => some v_gate_view_enough
  | 67 => some v_gate_least
  | 68 => some v_gate_Set_1
  | 69 => some v_dispatch_Best_1
  | 70 => some v_dispatch_Better
  | 71 => some v_unit_fits
  | 72 => some v_unit_may
  | 73 => some v_unit_runs
  | 74 => some v_unit_Flows
  | 77 => some v_unit_May
  | 78 => some v_curve_steep
  | 79 => some v_sort_Search
  | 80 => some v_gate_least_1
  | 81 => some v_slices_Compare_int_int
  | 82 => some v_unit_beyond
  | 85 => some v_cmp_Compare_int
  | 97 => some v_cmp_isNaN_int
  | _ => none
theorem all_ok : ∀ f vf, F f = some vf → ∃ fn, Try.prog.funcs[f]? = some fn ∧ okFunc Try.prog prs fn vf = true := fun f vf h => by
  unfold F at h
  split at h
  · cases h; exact ⟨_, Try.func3, ok_w22_DamMore⟩
  · cases h; exact ⟨_, Try.func4, ok_w22_DamObeys⟩
  · cases h; exact ⟨_, Try.func5, ok_mk_New⟩
  · cases h; exact ⟨_, Try.func6, ok_mk_Dam⟩
  · cases h; exact ⟨_, Try.func7, ok_mk_Deck_Next⟩
  · cases h; exact ⟨_, Try.func8, ok_dam_Step⟩
  · cases h; exact ⟨_, Try.func9, ok_mk_Mod⟩
  · cases h; exact ⟨_, Try.func10, ok_r03_Volume⟩
  · cases h; exact ⟨_, Try.func11, ok_w22_awake⟩
  · cases h; exact ⟨_, Try.func12, ok_dam_Can⟩
  · cases h; exact ⟨_, Try.func13, ok_mk_Reservoir⟩
  · cases h; exact ⟨_, Try.func14, ok_mk_Units⟩
  · cases h; exact ⟨_, Try.func15, ok_mk_Gates⟩
  · cases h; exact ⟨_, Try.func16, ok_dam_Level⟩
  · cases h; exact ⟨_, Try.func17, ok_slices_ContainsFunc_int_int⟩
  · cases h; exact ⟨_, Try.func18, ok_dam_Step_1⟩
  · cases h; exact ⟨_, Try.func19, ok_quantity_Within⟩
  · cases h; exact ⟨_, Try.func20, ok_dam_work_run⟩
  · cases h; exact ⟨_, Try.func21, ok_r03_wrong⟩
  · cases h; exact ⟨_, Try.func22, ok_r02_At⟩
  · cases h; exact ⟨_, Try.func23, ok_dam_Flow⟩
  · cases h; exact ⟨_, Try.func24, ok_dispatch_Range⟩
  · cases h; exact ⟨_, Try.func25, ok_gate_Range⟩
  · cases h; exact ⟨_, Try.func26, ok_mk_Curve⟩
  · cases h; exact ⟨_, Try.func27, ok_mk_Unit⟩
  · cases h; exact ⟨_, Try.func28, ok_mk_UnitState⟩
  · cases h; exact ⟨_, Try.func29, ok_mk_Gate⟩
  · cases h; exact ⟨_, Try.func30, ok_dam_asked⟩
  · cases h; exact ⟨_, Try.func31, ok_storage_Height⟩
  · cases h; exact ⟨_, Try.func32, ok_slices_IndexFunc_int_int⟩
  · cases h; exact ⟨_, Try.func33, ok_dam_work_over⟩
  · cases h; exact ⟨_, Try.func34, ok_dam_work_gates⟩
  · cases h; exact ⟨_, Try.func35, ok_dam_work_turbines⟩
  · cases h; exact ⟨_, Try.func36, ok_r03_Check⟩
  · cases h; exact ⟨_, Try.func37, ok_r01_In⟩
  · cases h; exact ⟨_, Try.func38, ok_r02_Check⟩
  · cases h; exact ⟨_, Try.func39, ok_r02_at⟩
  · cases h; exact ⟨_, Try.func40, ok_dispatch_station⟩
  · cases h; exact ⟨_, Try.func41, ok_gate_asked⟩
  · cases h; exact ⟨_, Try.func42, ok_gate_at⟩
  · cases h; exact ⟨_, Try.func43, ok_gate_reach⟩
  · cases h; exact ⟨_, Try.func44, ok_gate_view_flow⟩
  · cases h; exact ⟨_, Try.func45, ok_r18_Flows⟩
  · cases h; exact ⟨_, Try.func46, ok_dam_Check⟩
  · cases h; exact ⟨_, Try.func47, ok_dam_fits⟩
  · cases h; exact ⟨_, Try.func48, ok_curve_Last⟩
  · cases h; exact ⟨_, Try.func49, ok_dam_crest⟩
  · cases h; exact ⟨_, Try.func50, ok_gate_Set⟩
  · cases h; exact ⟨_, Try.func51, ok_dam_work_free⟩
  · cases h; exact ⟨_, Try.func52, ok_dispatch_Best⟩
  · cases h; exact ⟨_, Try.func53, ok_unit_Next⟩
  · cases h; exact ⟨_, Try.func54, ok_unit_Power⟩
  · cases h; exact ⟨_, Try.func55, ok_r01_in⟩
  · cases h; exact ⟨_, Try.func56, ok_unit_Valid⟩
  · cases h; exact ⟨_, Try.func57, ok_dispatch_choices⟩
  · cases h; exact ⟨_, Try.func58, ok_gate_valid⟩
  · cases h; exact ⟨_, Try.func59, ok_gate_Check⟩
  · cases h; exact ⟨_, Try.func60, ok_curve_Value⟩
  · cases h; exact ⟨_, Try.func61, ok_r18_Check⟩
  · cases h; exact ⟨_, Try.func62, ok_r18_inside⟩
  · cases h; exact ⟨_, Try.func63, ok_storage_Check⟩
  · cases h; exact ⟨_, Try.func64, ok_unit_Check⟩
  · cases h; exact ⟨_, Try.func65, ok_curve_Check⟩
  · cases h; exact ⟨_, Try.func66, ok_gate_view_enough⟩
  · cases h; exact ⟨_, Try.func67, ok_gate_least⟩
  · cases h; exact ⟨_, Try.func68, ok_gate_Set_1⟩
  · cases h; exact ⟨_, Try.func69, ok_dispatch_Best_1⟩
  · cases h; exact ⟨_, Try.func70, ok_dispatch_Better⟩
  · cases h; exact ⟨_, Try.func71, ok_unit_fits⟩
  · cases h; exact ⟨_, Try.func72, ok_unit_may⟩
  · cases h; exact ⟨_, Try.func73, ok_unit_runs⟩
  · cases h; exact ⟨_, Try.func74, ok_unit_Flows⟩
  · cases h; exact ⟨_, Try.func77, ok_unit_May⟩
  · cases h; exact ⟨_, Try.func78, ok_curve_steep⟩
  · cases h; exact ⟨_, Try.func79, ok_sort_Search⟩
  · cases h; exact ⟨_, Try.func80, ok_gate_least_1⟩
  · cases h; exact ⟨_, Try.func81, ok_slices_Compare_int_int⟩
  · cases h; exact ⟨_, Try.func82, ok_unit_beyond⟩
  · cases h; exact ⟨_, Try.func85, ok_cmp_Compare_int⟩
  · cases h; exact ⟨_, Try.func97, ok_cmp_isNaN_int⟩
  · cases h
end Go.Proofs.Ytfjdfnegookkcaa
