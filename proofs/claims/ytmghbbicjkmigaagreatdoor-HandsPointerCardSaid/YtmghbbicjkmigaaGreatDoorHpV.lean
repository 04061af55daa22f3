/-
  HandsPointer: where the window lies (printed by a program).
-/
import Derived.Test.YtmghbbicjkmigaaGreatDoorHc
namespace Go.Proofs.YtmghbbicjkmigaaGreatDoor
namespace Ev
open Go.RowKit
noncomputable def hpB : List Fact := [⟨true, .var 0, .lit 0, false⟩, ⟨true, .lit 7, .var 0, false⟩, ⟨true, .var 2, .lit 0, false⟩, ⟨true, .lit 5, .var 2, false⟩, ⟨true, .var 4, .lit 0, false⟩, ⟨true, .lit 3, .var 4, false⟩, ⟨true, .var 6, .lit 0, false⟩, ⟨true, .lit 2, .var 6, false⟩, ⟨true, .var 1, .lit 0, false⟩, ⟨true, .lit 31, .var 1, false⟩, ⟨true, .var 3, .lit 0, false⟩, ⟨true, .lit 42, .var 3, false⟩, ⟨true, .var 5, .lit 0, false⟩, ⟨true, .lit 63, .var 5, false⟩, ⟨true, .var 7, .lit 0, false⟩, ⟨true, .lit 85, .var 7, false⟩, ⟨true, .var 8, .lit (-32768), false⟩, ⟨true, .lit 32767, .var 8, false⟩, ⟨true, .var 9, .lit (-32768), false⟩, ⟨true, .lit 32767, .var 9, false⟩]
noncomputable def somes : List (Nat × AObj) → List (Nat × Option AObj)
  | [] => []
  | p :: r => (p.1, some p.2) :: somes r
noncomputable def hpPA : List AV := [.slice 69 0 2 (some 2) 0]
noncomputable def hpPO : List (Nat × AObj) := [(69, .cells [.int .u8 (1), .int .i64 (1), .slice 67 0 9 (some 9) 0, .str [], .nilslice, .int .i64 (0), .int .i64 (0), .int .i64 (0), .int .i64 (0), .int .u32 (0), .int .i64 (0), .int .u8 (1), .int .i64 (3), .slice 68 0 1 (some 1) 0, .str [], .nilslice, .int .i64 (0), .int .i64 (0), .int .i64 (0), .int .i64 (0), .int .u32 (0), .int .i64 (0)] 90 (0, 0) none), (67, .cells [.int .i64 (1048577), .int .i64 (1), .sint .i64 (.var 0), .sint .i64 (.var 2), .sint .i64 (.lin (1) [(4, 1)]), .sint .i64 (.lin (1) [(6, 1)]), .int .i64 (3), .int .i64 (0), .int .i64 (0)] 2 (0, 0) none), (68, .cells [.int .i64 (1048577)] 2 (0, 0) none)]
noncomputable def hpV0 : AV := .tuple [.agg [.map 70, .map 134, .slice 198 0 2 none 0, .map 262, .nilmap, .nilmap, .int .u32 (1), .int .i64 (1), .int .u32 (0), .nilslice, .int .i64 (0), .int .u32 (0), .bool false, .int .i64 (0), .bool false, .bool false, .int .i64 (0), .int .u32 (0), .bool false, .bool false, .bool false, .int .i64 (0), .int .i64 (0), .int .i64 (0), .int .i64 (0), .int .u32 (0), .int .i64 (0), .bool false, .nilslice, .int .i64 (0), .int .u32 (0), .bool false, .int .i64 (0), .bool false, .bool false, .int .i64 (0), .int .u32 (0), .bool false, .bool false, .bool false, .int .i64 (0), .int .i64 (0), .int .i64 (0), .int .i64 (0), .int .u32 (0), .int .i64 (0), .bool false, .nilslice, .int .i64 (5), .int .i64 (4), .int .i64 (0), .int .i64 (0), .int .i64 (0), .int .u32 (0), .int .u32 (1), .map 3590, .map 3654, .nilslice, .nilmap, .map 3846, .map 3910, .nilmap, .nilslice, .nilmap, .map 4166, .map 4230, .map 4294, .map 4358, .int .i64 (10), .int .i64 (8), .int .i64 (0)], .bool true]
noncomputable def hpO0 : Nat × AObj := (134, .map [⟨.int .u32 (1048577), .int .u32 (1), 0⟩] 1)
noncomputable def hpO1 : Nat × AObj := (198, .cells [.int .u32 (1), .int .u32 (1048577)] 38 (0, 0) (some 1))
noncomputable def hpO2 : Nat × AObj := (262, .map [⟨.int .u32 (1048577), .agg [.sint .i64 (.var 0), .sint .i64 (.var 2), .slice 263 0 1 (some 1) 0], 0⟩, ⟨.int .u32 (1), .agg [.int .i64 (0), .int .i64 (0), .slice 264 0 2 (some 2) 0], 1⟩] 2)
noncomputable def hpO3 : Nat × AObj := (263, .cells [.sint .i64 (.var 0), .sint .i64 (.var 2), .sint .i64 (.lin (10) [(0, -1)]), .sint .i64 (.lin (1) [(6, 1)])] 168 (0, 0) (some 4))
noncomputable def hpO4 : Nat × AObj := (264, .cells [.int .i64 (0), .int .i64 (0), .int .i64 (10), .sint .i64 (.var 2), .int .i64 (0), .sint .i64 (.var 2), .sint .i64 (.var 0), .sint .i64 (.lin (8) [(2, -1)])] 168 (0, 0) (some 4))
noncomputable def hpO5 : Nat × AObj := (3590, .map [⟨.int .u32 (1), .agg [.int .i64 (0), .int .i64 (0), .int .i64 (10), .int .i64 (8), .bool true, .int .i64 (1), .int .i64 (1), .bool false, .nilslice], 0⟩, ⟨.int .u32 (1048577), .agg [.sint .i64 (.var 0), .sint .i64 (.var 2), .sint .i64 (.lin (1) [(4, 1)]), .sint .i64 (.lin (1) [(6, 1)]), .bool true, .int .i64 (1), .int .i64 (0), .bool false, .nilslice], 1⟩] 2)
noncomputable def hpO6 : Nat × AObj := (3846, .map [] 0)
noncomputable def hpO7 : Nat × AObj := (4166, .map [] 0)
noncomputable def hpO8 : Nat × AObj := (4230, .map [] 0)
noncomputable def hpO9 : Nat × AObj := (4294, .map [] 0)
noncomputable def hpO10 : Nat × AObj := (4358, .map [⟨.int .i64 (1), .bool true, 0⟩, ⟨.int .i64 (2), .bool true, 1⟩, ⟨.int .i64 (3), .bool true, 2⟩] 3)
noncomputable def hpR0 : List (Nat × Nat) := [(70, 514), (71, 522), (134, 515), (198, 1094), (262, 738), (263, 971), (264, 1076), (3590, 704), (3654, 1100), (3655, 1515), (3656, 83), (3657, 1498), (3846, 729), (3910, 505), (4166, 733), (4230, 730), (4294, 731), (4358, 732)]
noncomputable def hpO11 : Nat × AObj := (263, .cells [.sint .i64 (.var 0), .sint .i64 (.var 2), .sint .i64 (.lin (1) [(4, 1)]), .sint .i64 (.lin (1) [(6, 1)])] 168 (0, 0) (some 4))
noncomputable def hpO12 : Nat × AObj := (262, .map [⟨.int .u32 (1048577), .agg [.sint .i64 (.var 0), .sint .i64 (.var 2), .slice 263 0 1 (some 1) 0], 0⟩, ⟨.int .u32 (1), .agg [.int .i64 (0), .int .i64 (0), .slice 264 0 3 (some 3) 0], 1⟩] 2)
noncomputable def hpO13 : Nat × AObj := (264, .cells [.int .i64 (0), .int .i64 (0), .int .i64 (10), .sint .i64 (.var 2), .int .i64 (0), .sint .i64 (.var 2), .sint .i64 (.var 0), .sint .i64 (.lin (8) [(2, -1)]), .sint .i64 (.lin (1) [(0, 1), (4, 1)]), .sint .i64 (.var 2), .sint .i64 (.lin (9) [(0, -1), (4, -1)]), .sint .i64 (.lin (8) [(2, -1)])] 168 (0, 0) (some 4))
noncomputable def hpR1 : List (Nat × Nat) := [(70, 514), (71, 522), (134, 515), (198, 1109), (262, 738), (263, 971), (264, 1095), (3590, 704), (3654, 1115), (3655, 1574), (3656, 83), (3657, 1557), (3846, 729), (3910, 505), (4166, 733), (4230, 730), (4294, 731), (4358, 732)]
noncomputable def hpO14 : Nat × AObj := (264, .cells [.int .i64 (0), .int .i64 (0), .int .i64 (10), .sint .i64 (.var 2), .sint .i64 (.lin (1) [(0, 1), (4, 1)]), .sint .i64 (.var 2), .sint .i64 (.lin (9) [(0, -1), (4, -1)]), .sint .i64 (.lin (8) [(2, -1)])] 168 (0, 0) (some 4))
noncomputable def hpO15 : Nat × AObj := (264, .cells [.int .i64 (0), .int .i64 (0), .int .i64 (10), .sint .i64 (.var 2), .int .i64 (0), .sint .i64 (.var 2), .sint .i64 (.var 0), .sint .i64 (.lin (1) [(6, 1)]), .int .i64 (0), .sint .i64 (.lin (1) [(2, 1), (6, 1)]), .int .i64 (10), .sint .i64 (.lin (7) [(2, -1), (6, -1)])] 168 (0, 0) (some 4))
noncomputable def hpR2 : List (Nat × Nat) := [(70, 514), (71, 522), (134, 515), (198, 1141), (262, 738), (263, 985), (264, 1123), (3590, 704), (3654, 1147), (3655, 1642), (3656, 83), (3657, 1625), (3846, 729), (3910, 505), (4166, 733), (4230, 730), (4294, 731), (4358, 732)]
noncomputable def hpO16 : Nat × AObj := (262, .map [⟨.int .u32 (1048577), .agg [.sint .i64 (.var 0), .sint .i64 (.var 2), .slice 263 0 1 (some 1) 0], 0⟩, ⟨.int .u32 (1), .agg [.int .i64 (0), .int .i64 (0), .slice 264 0 4 (some 4) 0], 1⟩] 2)
noncomputable def hpO17 : Nat × AObj := (264, .cells [.int .i64 (0), .int .i64 (0), .int .i64 (10), .sint .i64 (.var 2), .int .i64 (0), .sint .i64 (.var 2), .sint .i64 (.var 0), .sint .i64 (.lin (1) [(6, 1)]), .sint .i64 (.lin (1) [(0, 1), (4, 1)]), .sint .i64 (.var 2), .sint .i64 (.lin (9) [(0, -1), (4, -1)]), .sint .i64 (.lin (1) [(6, 1)]), .int .i64 (0), .sint .i64 (.lin (1) [(2, 1), (6, 1)]), .int .i64 (10), .sint .i64 (.lin (7) [(2, -1), (6, -1)])] 168 (0, 0) (some 4))
noncomputable def hpR3 : List (Nat × Nat) := [(70, 514), (71, 522), (134, 515), (198, 1154), (262, 738), (263, 985), (264, 1140), (3590, 704), (3654, 1160), (3655, 1695), (3656, 83), (3657, 1678), (3846, 729), (3910, 505), (4166, 733), (4230, 730), (4294, 731), (4358, 732)]
noncomputable def hpV1 : AV := .tuple [.agg [.map 70, .map 134, .slice 198 0 2 none 0, .map 262, .nilmap, .nilmap, .int .u32 (1), .int .i64 (1), .int .u32 (0), .nilslice, .int .i64 (0), .int .u32 (0), .bool false, .int .i64 (0), .bool false, .bool false, .int .i64 (0), .int .u32 (0), .bool false, .bool false, .bool false, .int .i64 (0), .int .i64 (0), .int .i64 (0), .int .i64 (0), .int .u32 (0), .int .i64 (0), .bool false, .nilslice, .int .i64 (0), .int .u32 (0), .bool false, .int .i64 (0), .bool false, .bool false, .int .i64 (0), .int .u32 (0), .bool false, .bool false, .bool false, .int .i64 (0), .int .i64 (0), .int .i64 (0), .int .i64 (0), .int .u32 (0), .int .i64 (0), .bool false, .nilslice, .int .i64 (5), .int .i64 (4), .int .i64 (0), .int .i64 (0), .int .i64 (0), .int .u32 (0), .int .u32 (1048577), .map 3590, .map 3654, .nilslice, .nilmap, .map 3846, .map 3910, .nilmap, .nilslice, .nilmap, .map 4166, .map 4230, .map 4294, .map 4358, .int .i64 (10), .int .i64 (8), .int .i64 (0)], .bool true]
noncomputable def hpO18 : Nat × AObj := (264, .cells [.int .i64 (0), .int .i64 (0), .int .i64 (10), .sint .i64 (.var 2), .sint .i64 (.lin (1) [(0, 1), (4, 1)]), .sint .i64 (.var 2), .sint .i64 (.lin (9) [(0, -1), (4, -1)]), .sint .i64 (.lin (1) [(6, 1)]), .int .i64 (0), .sint .i64 (.lin (1) [(2, 1), (6, 1)]), .int .i64 (10), .sint .i64 (.lin (7) [(2, -1), (6, -1)])] 168 (0, 0) (some 4))
noncomputable def hpO19 : Nat × AObj := (264, .cells [.int .i64 (0), .int .i64 (0), .sint .i64 (.var 0), .sint .i64 (.lin (1) [(2, 1), (6, 1)]), .int .i64 (0), .sint .i64 (.lin (1) [(2, 1), (6, 1)]), .int .i64 (10), .sint .i64 (.lin (7) [(2, -1), (6, -1)])] 168 (0, 0) (some 4))
noncomputable def hpO20 : Nat × AObj := (264, .cells [.int .i64 (0), .int .i64 (0), .sint .i64 (.var 0), .sint .i64 (.lin (1) [(2, 1), (6, 1)]), .sint .i64 (.lin (1) [(0, 1), (4, 1)]), .int .i64 (0), .sint .i64 (.lin (9) [(0, -1), (4, -1)]), .sint .i64 (.lin (1) [(2, 1), (6, 1)]), .int .i64 (0), .sint .i64 (.lin (1) [(2, 1), (6, 1)]), .int .i64 (10), .sint .i64 (.lin (7) [(2, -1), (6, -1)])] 168 (0, 0) (some 4))
noncomputable def hpR4 : List (Nat × Nat) := [(70, 514), (71, 522), (134, 515), (198, 1111), (262, 738), (263, 971), (264, 1097), (3590, 704), (3654, 1117), (3655, 1580), (3656, 83), (3657, 1563), (3846, 729), (3910, 505), (4166, 733), (4230, 730), (4294, 731), (4358, 732)]
noncomputable def hpO21 : Nat × AObj := (264, .cells [.sint .i64 (.lin (1) [(0, 1), (4, 1)]), .int .i64 (0), .sint .i64 (.lin (9) [(0, -1), (4, -1)]), .sint .i64 (.lin (1) [(2, 1), (6, 1)]), .int .i64 (0), .sint .i64 (.lin (1) [(2, 1), (6, 1)]), .int .i64 (10), .sint .i64 (.lin (7) [(2, -1), (6, -1)])] 168 (0, 0) (some 4))
noncomputable def hpK0 : Memo := ⟨4632, [.agg [.int .i64 (49), .slice 4616 0 3 (some 3) 0, .str [], .nilslice]], [(4616, .cells [.int .i64 (1048577), .sint .i64 (.var 8), .sint .i64 (.var 9)] 2 (0, 0) none)], hpB, 4776, .int .i64 (0), []⟩
noncomputable def hpK1 : Memo := ⟨4899, [.agg [.int .i64 (48), .slice 4883 0 1 (some 1) 0, .str [], .nilslice]], [(4883, .cells [.int .i64 (1)] 2 (0, 0) none)], hpB, 4979, .int .i64 (0), []⟩
noncomputable def hpK2 : Memo := ⟨5036, [.agg [.int .i64 (48), .slice 5020 0 1 (some 1) 0, .str [], .nilslice]], [(5020, .cells [.int .i64 (1048577)] 2 (0, 0) none)], hpB, 5116, .int .i64 (0), []⟩
noncomputable def hpK3 : Memo := ⟨4900, [.agg [.int .i64 (48), .slice 4884 0 1 (some 1) 0, .str [], .nilslice]], [(4884, .cells [.int .i64 (1)] 2 (0, 0) none)], hpB, 4980, .int .i64 (0), []⟩
noncomputable def hpK4 : Memo := ⟨5037, [.agg [.int .i64 (48), .slice 5021 0 1 (some 1) 0, .str [], .nilslice]], [(5021, .cells [.int .i64 (1048577)] 2 (0, 0) none)], hpB, 5117, .int .i64 (0), []⟩
noncomputable def hpK5 : Memo := ⟨4941, [.agg [.int .i64 (48), .slice 4925 0 1 (some 1) 0, .str [], .nilslice]], [(4925, .cells [.int .i64 (1)] 2 (0, 0) none)], hpB, 5021, .int .i64 (0), []⟩
noncomputable def hpK6 : Memo := ⟨5080, [.agg [.int .i64 (48), .slice 5064 0 1 (some 1) 0, .str [], .nilslice]], [(5064, .cells [.int .i64 (1048577)] 2 (0, 0) none)], hpB, 5160, .int .i64 (0), []⟩
noncomputable def hpK7 : Memo := ⟨4924, [.agg [.int .i64 (48), .slice 4908 0 1 (some 1) 0, .str [], .nilslice]], [(4908, .cells [.int .i64 (1)] 2 (0, 0) none)], hpB, 5004, .int .i64 (0), []⟩
noncomputable def hpK8 : Memo := ⟨5060, [.agg [.int .i64 (48), .slice 5044 0 1 (some 1) 0, .str [], .nilslice]], [(5044, .cells [.int .i64 (1048577)] 2 (0, 0) none)], hpB, 5140, .int .i64 (0), []⟩
noncomputable def hpK9 : Memo := ⟨4938, [.agg [.int .i64 (48), .slice 4922 0 1 (some 1) 0, .str [], .nilslice]], [(4922, .cells [.int .i64 (1)] 2 (0, 0) none)], hpB, 5018, .int .i64 (0), []⟩
noncomputable def hpK10 : Memo := ⟨5075, [.agg [.int .i64 (48), .slice 5059 0 1 (some 1) 0, .str [], .nilslice]], [(5059, .cells [.int .i64 (1048577)] 2 (0, 0) none)], hpB, 5155, .int .i64 (0), []⟩
noncomputable def hpK11 : Memo := ⟨4939, [.agg [.int .i64 (48), .slice 4923 0 1 (some 1) 0, .str [], .nilslice]], [(4923, .cells [.int .i64 (1)] 2 (0, 0) none)], hpB, 5019, .int .i64 (0), []⟩
noncomputable def hpK12 : Memo := ⟨5076, [.agg [.int .i64 (48), .slice 5060 0 1 (some 1) 0, .str [], .nilslice]], [(5060, .cells [.int .i64 (1048577)] 2 (0, 0) none)], hpB, 5156, .int .i64 (0), []⟩
noncomputable def hpK13 : Memo := ⟨4902, [.agg [.int .i64 (48), .slice 4886 0 1 (some 1) 0, .str [], .nilslice]], [(4886, .cells [.int .i64 (1)] 2 (0, 0) none)], hpB, 4982, .int .i64 (0), []⟩
noncomputable def hpK14 : Memo := ⟨5041, [.agg [.int .i64 (48), .slice 5025 0 1 (some 1) 0, .str [], .nilslice]], [(5025, .cells [.int .i64 (1048577)] 2 (0, 0) none)], hpB, 5121, .int .i64 (0), []⟩
noncomputable def hpK15 : Memo := ⟨4901, [.agg [.int .i64 (48), .slice 4885 0 1 (some 1) 0, .str [], .nilslice]], [(4885, .cells [.int .i64 (1)] 2 (0, 0) none)], hpB, 4981, .int .i64 (0), []⟩
noncomputable def hpK16 : Memo := ⟨5038, [.agg [.int .i64 (48), .slice 5022 0 1 (some 1) 0, .str [], .nilslice]], [(5022, .cells [.int .i64 (1048577)] 2 (0, 0) none)], hpB, 5118, .int .i64 (0), []⟩
noncomputable def hpK17 : Memo := ⟨5039, [.agg [.int .i64 (48), .slice 5023 0 1 (some 1) 0, .str [], .nilslice]], [(5023, .cells [.int .i64 (1048577)] 2 (0, 0) none)], hpB, 5119, .int .i64 (0), []⟩
noncomputable def hpK18 : Memo := ⟨4943, [.agg [.int .i64 (48), .slice 4927 0 1 (some 1) 0, .str [], .nilslice]], [(4927, .cells [.int .i64 (1)] 2 (0, 0) none)], hpB, 5023, .int .i64 (0), []⟩
noncomputable def hpK19 : Memo := ⟨5082, [.agg [.int .i64 (48), .slice 5066 0 1 (some 1) 0, .str [], .nilslice]], [(5066, .cells [.int .i64 (1048577)] 2 (0, 0) none)], hpB, 5162, .int .i64 (0), []⟩
noncomputable def hpK20 : Memo := ⟨4926, [.agg [.int .i64 (48), .slice 4910 0 1 (some 1) 0, .str [], .nilslice]], [(4910, .cells [.int .i64 (1)] 2 (0, 0) none)], hpB, 5006, .int .i64 (0), []⟩
noncomputable def hpK21 : Memo := ⟨5062, [.agg [.int .i64 (48), .slice 5046 0 1 (some 1) 0, .str [], .nilslice]], [(5046, .cells [.int .i64 (1048577)] 2 (0, 0) none)], hpB, 5142, .int .i64 (0), []⟩
noncomputable def hpK22 : Memo := ⟨4940, [.agg [.int .i64 (48), .slice 4924 0 1 (some 1) 0, .str [], .nilslice]], [(4924, .cells [.int .i64 (1)] 2 (0, 0) none)], hpB, 5020, .int .i64 (0), []⟩
noncomputable def hpK23 : Memo := ⟨5077, [.agg [.int .i64 (48), .slice 5061 0 1 (some 1) 0, .str [], .nilslice]], [(5061, .cells [.int .i64 (1048577)] 2 (0, 0) none)], hpB, 5157, .int .i64 (0), []⟩
noncomputable def hpK24 : Memo := ⟨5078, [.agg [.int .i64 (48), .slice 5062 0 1 (some 1) 0, .str [], .nilslice]], [(5062, .cells [.int .i64 (1048577)] 2 (0, 0) none)], hpB, 5158, .int .i64 (0), []⟩
noncomputable def hpK25 : Memo := ⟨4904, [.agg [.int .i64 (48), .slice 4888 0 1 (some 1) 0, .str [], .nilslice]], [(4888, .cells [.int .i64 (1)] 2 (0, 0) none)], hpB, 4984, .int .i64 (0), []⟩
noncomputable def hpK26 : Memo := ⟨5043, [.agg [.int .i64 (48), .slice 5027 0 1 (some 1) 0, .str [], .nilslice]], [(5027, .cells [.int .i64 (1048577)] 2 (0, 0) none)], hpB, 5123, .int .i64 (0), []⟩
noncomputable def hpK27 : Memo := ⟨4925, [.agg [.int .i64 (48), .slice 4909 0 1 (some 1) 0, .str [], .nilslice]], [(4909, .cells [.int .i64 (1)] 2 (0, 0) none)], hpB, 5005, .int .i64 (0), []⟩
noncomputable def hpK28 : Memo := ⟨5061, [.agg [.int .i64 (48), .slice 5045 0 1 (some 1) 0, .str [], .nilslice]], [(5045, .cells [.int .i64 (1048577)] 2 (0, 0) none)], hpB, 5141, .int .i64 (0), []⟩
noncomputable def hpK29 : Memo := ⟨4903, [.agg [.int .i64 (48), .slice 4887 0 1 (some 1) 0, .str [], .nilslice]], [(4887, .cells [.int .i64 (1)] 2 (0, 0) none)], hpB, 4983, .int .i64 (0), []⟩
noncomputable def hpK30 : Memo := ⟨5040, [.agg [.int .i64 (48), .slice 5024 0 1 (some 1) 0, .str [], .nilslice]], [(5024, .cells [.int .i64 (1048577)] 2 (0, 0) none)], hpB, 5120, .int .i64 (0), []⟩
noncomputable def hpK31 : Memo := ⟨4945, [.agg [.int .i64 (48), .slice 4929 0 1 (some 1) 0, .str [], .nilslice]], [(4929, .cells [.int .i64 (1)] 2 (0, 0) none)], hpB, 5025, .int .i64 (0), []⟩
noncomputable def hpK32 : Memo := ⟨5084, [.agg [.int .i64 (48), .slice 5068 0 1 (some 1) 0, .str [], .nilslice]], [(5068, .cells [.int .i64 (1048577)] 2 (0, 0) none)], hpB, 5164, .int .i64 (0), []⟩
noncomputable def hpK33 : Memo := ⟨4942, [.agg [.int .i64 (48), .slice 4926 0 1 (some 1) 0, .str [], .nilslice]], [(4926, .cells [.int .i64 (1)] 2 (0, 0) none)], hpB, 5022, .int .i64 (0), []⟩
noncomputable def hpK34 : Memo := ⟨5079, [.agg [.int .i64 (48), .slice 5063 0 1 (some 1) 0, .str [], .nilslice]], [(5063, .cells [.int .i64 (1048577)] 2 (0, 0) none)], hpB, 5159, .int .i64 (0), []⟩
noncomputable def hpK35 : Memo := ⟨4906, [.agg [.int .i64 (48), .slice 4890 0 1 (some 1) 0, .str [], .nilslice]], [(4890, .cells [.int .i64 (1)] 2 (0, 0) none)], hpB, 4986, .int .i64 (0), []⟩
noncomputable def hpK36 : Memo := ⟨5045, [.agg [.int .i64 (48), .slice 5029 0 1 (some 1) 0, .str [], .nilslice]], [(5029, .cells [.int .i64 (1048577)] 2 (0, 0) none)], hpB, 5125, .int .i64 (0), []⟩
noncomputable def hpK37 : Memo := ⟨4923, [.agg [.int .i64 (48), .slice 4907 0 1 (some 1) 0, .str [], .nilslice]], [(4907, .cells [.int .i64 (1)] 2 (0, 0) none)], hpB, 5003, .int .i64 (0), []⟩
noncomputable def hpK38 : Memo := ⟨5059, [.agg [.int .i64 (48), .slice 5043 0 1 (some 1) 0, .str [], .nilslice]], [(5043, .cells [.int .i64 (1048577)] 2 (0, 0) none)], hpB, 5139, .int .i64 (0), []⟩
noncomputable def hpKs : List Memo := [hpK0, hpK1, hpK2, hpK3, hpK4, hpK5, hpK6, hpK7, hpK8, hpK9, hpK10, hpK11, hpK12, hpK13, hpK14, hpK15, hpK16, hpK17, hpK18, hpK19, hpK20, hpK21, hpK22, hpK23, hpK24, hpK25, hpK26, hpK27, hpK28, hpK29, hpK30, hpK31, hpK32, hpK33, hpK34, hpK35, hpK36, hpK37, hpK38]
noncomputable def hpF0 : List Fact := ⟨true, (.lit (4)), (.var 2), true⟩ :: ⟨true, (.lit (10)), (.lin (1) [(0, 1), (4, 1)]), true⟩ :: ⟨true, (.lit (0)), (.var 0), true⟩ :: ⟨false, (.lit (8)), (.lin (1) [(2, 1), (6, 1)]), true⟩ :: ⟨true, (.lit (0)), (.var 2), true⟩ :: hpB
noncomputable def hpP0 : MemoR := ⟨70, hpPA, hpPO, hpF0, 4615, hpV0, somes [hpO0, hpO1, hpO2, hpO3, hpO4, hpO5, hpO6, hpO7, hpO8, hpO9, hpO10], hpR0⟩
noncomputable def hpF3 : List Fact := ⟨true, (.lit (4)), (.var 2), true⟩ :: ⟨false, (.lit (10)), (.lin (1) [(0, 1), (4, 1)]), true⟩ :: ⟨true, (.lit (10)), (.lin (1) [(0, 1), (4, 1)]), false⟩ :: ⟨true, (.lit (0)), (.var 0), true⟩ :: ⟨false, (.lit (8)), (.lin (1) [(2, 1), (6, 1)]), true⟩ :: ⟨true, (.lit (0)), (.var 2), true⟩ :: hpB
noncomputable def hpP3 : MemoR := ⟨70, hpPA, hpPO, hpF3, 4615, hpV0, somes [hpO0, hpO1, hpO2, hpO11, hpO4, hpO5, hpO6, hpO7, hpO8, hpO9, hpO10], hpR0⟩
noncomputable def hpF6 : List Fact := ⟨true, (.lit (4)), (.var 2), true⟩ :: ⟨true, (.lin (1) [(0, 1), (4, 1)]), (.lit (10)), true⟩ :: ⟨false, (.lit (10)), (.lin (1) [(0, 1), (4, 1)]), false⟩ :: ⟨true, (.lit (10)), (.lin (1) [(0, 1), (4, 1)]), false⟩ :: ⟨true, (.lit (0)), (.var 0), true⟩ :: ⟨false, (.lit (8)), (.lin (1) [(2, 1), (6, 1)]), true⟩ :: ⟨true, (.lit (0)), (.var 2), true⟩ :: hpB
noncomputable def hpP6 : MemoR := ⟨70, hpPA, hpPO, hpF6, 4615, hpV0, somes [hpO0, hpO1, hpO12, hpO11, hpO13, hpO5, hpO6, hpO7, hpO8, hpO9, hpO10], hpR1⟩
noncomputable def hpF13 : List Fact := ⟨true, (.lit (4)), (.var 2), true⟩ :: ⟨true, (.lit (0)), (.var 0), false⟩ :: ⟨false, (.lit (8)), (.lin (1) [(2, 1), (6, 1)]), true⟩ :: ⟨true, (.lit (0)), (.var 2), true⟩ :: hpB
noncomputable def hpP13 : MemoR := ⟨70, hpPA, hpPO, hpF13, 4615, hpV0, somes [hpO0, hpO1, hpO2, hpO11, hpO14, hpO5, hpO6, hpO7, hpO8, hpO9, hpO10], hpR0⟩
noncomputable def hpF15 : List Fact := ⟨true, (.lit (4)), (.var 2), true⟩ :: ⟨true, (.lin (1) [(2, 1), (6, 1)]), (.lit (8)), true⟩ :: ⟨true, (.lit (10)), (.lin (1) [(0, 1), (4, 1)]), true⟩ :: ⟨true, (.lit (0)), (.var 0), true⟩ :: ⟨false, (.lit (8)), (.lin (1) [(2, 1), (6, 1)]), false⟩ :: ⟨true, (.lit (0)), (.var 2), true⟩ :: hpB
noncomputable def hpP15 : MemoR := ⟨70, hpPA, hpPO, hpF15, 4615, hpV0, somes [hpO0, hpO1, hpO12, hpO3, hpO15, hpO5, hpO6, hpO7, hpO8, hpO9, hpO10], hpR2⟩
noncomputable def hpF16 : List Fact := ⟨true, (.lit (5)), (.var 0), true⟩ :: ⟨true, (.lit (4)), (.lin (1) [(2, 1), (6, 1)]), true⟩ :: ⟨true, (.lit (4)), (.var 2), false⟩ :: ⟨true, (.lin (1) [(2, 1), (6, 1)]), (.lit (8)), true⟩ :: ⟨true, (.lit (10)), (.lin (1) [(0, 1), (4, 1)]), true⟩ :: ⟨true, (.lit (0)), (.var 0), true⟩ :: ⟨false, (.lit (8)), (.lin (1) [(2, 1), (6, 1)]), false⟩ :: ⟨true, (.lit (0)), (.var 2), true⟩ :: hpB
noncomputable def hpP16 : MemoR := ⟨70, hpPA, hpPO, hpF16, 4615, hpV0, somes [hpO0, hpO1, hpO12, hpO3, hpO15, hpO5, hpO6, hpO7, hpO8, hpO9, hpO10], hpR2⟩
noncomputable def hpF18 : List Fact := ⟨true, (.lit (4)), (.lin (1) [(2, 1), (6, 1)]), false⟩ :: ⟨true, (.lit (4)), (.var 2), false⟩ :: ⟨true, (.lin (1) [(2, 1), (6, 1)]), (.lit (8)), true⟩ :: ⟨true, (.lit (10)), (.lin (1) [(0, 1), (4, 1)]), true⟩ :: ⟨true, (.lit (0)), (.var 0), true⟩ :: ⟨false, (.lit (8)), (.lin (1) [(2, 1), (6, 1)]), false⟩ :: ⟨true, (.lit (0)), (.var 2), true⟩ :: hpB
noncomputable def hpP18 : MemoR := ⟨70, hpPA, hpPO, hpF18, 4615, hpV0, somes [hpO0, hpO1, hpO12, hpO3, hpO15, hpO5, hpO6, hpO7, hpO8, hpO9, hpO10], hpR2⟩
noncomputable def hpF22 : List Fact := ⟨true, (.lit (4)), (.var 2), true⟩ :: ⟨true, (.lin (1) [(2, 1), (6, 1)]), (.lit (8)), true⟩ :: ⟨false, (.lit (10)), (.lin (1) [(0, 1), (4, 1)]), true⟩ :: ⟨true, (.lit (10)), (.lin (1) [(0, 1), (4, 1)]), false⟩ :: ⟨true, (.lit (0)), (.var 0), true⟩ :: ⟨false, (.lit (8)), (.lin (1) [(2, 1), (6, 1)]), false⟩ :: ⟨true, (.lit (0)), (.var 2), true⟩ :: hpB
noncomputable def hpP22 : MemoR := ⟨70, hpPA, hpPO, hpF22, 4615, hpV0, somes [hpO0, hpO1, hpO12, hpO11, hpO15, hpO5, hpO6, hpO7, hpO8, hpO9, hpO10], hpR2⟩
noncomputable def hpF23 : List Fact := ⟨true, (.lit (5)), (.var 0), true⟩ :: ⟨true, (.lit (4)), (.lin (1) [(2, 1), (6, 1)]), true⟩ :: ⟨true, (.lit (4)), (.var 2), false⟩ :: ⟨true, (.lin (1) [(2, 1), (6, 1)]), (.lit (8)), true⟩ :: ⟨false, (.lit (10)), (.lin (1) [(0, 1), (4, 1)]), true⟩ :: ⟨true, (.lit (10)), (.lin (1) [(0, 1), (4, 1)]), false⟩ :: ⟨true, (.lit (0)), (.var 0), true⟩ :: ⟨false, (.lit (8)), (.lin (1) [(2, 1), (6, 1)]), false⟩ :: ⟨true, (.lit (0)), (.var 2), true⟩ :: hpB
noncomputable def hpP23 : MemoR := ⟨70, hpPA, hpPO, hpF23, 4615, hpV0, somes [hpO0, hpO1, hpO12, hpO11, hpO15, hpO5, hpO6, hpO7, hpO8, hpO9, hpO10], hpR2⟩
noncomputable def hpF25 : List Fact := ⟨true, (.lit (4)), (.lin (1) [(2, 1), (6, 1)]), false⟩ :: ⟨true, (.lit (4)), (.var 2), false⟩ :: ⟨true, (.lin (1) [(2, 1), (6, 1)]), (.lit (8)), true⟩ :: ⟨false, (.lit (10)), (.lin (1) [(0, 1), (4, 1)]), true⟩ :: ⟨true, (.lit (10)), (.lin (1) [(0, 1), (4, 1)]), false⟩ :: ⟨true, (.lit (0)), (.var 0), true⟩ :: ⟨false, (.lit (8)), (.lin (1) [(2, 1), (6, 1)]), false⟩ :: ⟨true, (.lit (0)), (.var 2), true⟩ :: hpB
noncomputable def hpP25 : MemoR := ⟨70, hpPA, hpPO, hpF25, 4615, hpV0, somes [hpO0, hpO1, hpO12, hpO11, hpO15, hpO5, hpO6, hpO7, hpO8, hpO9, hpO10], hpR2⟩
noncomputable def hpF29 : List Fact := ⟨true, (.lit (4)), (.var 2), true⟩ :: ⟨true, (.lin (1) [(2, 1), (6, 1)]), (.lit (8)), true⟩ :: ⟨true, (.lin (1) [(0, 1), (4, 1)]), (.lit (10)), true⟩ :: ⟨false, (.lit (10)), (.lin (1) [(0, 1), (4, 1)]), false⟩ :: ⟨true, (.lit (10)), (.lin (1) [(0, 1), (4, 1)]), false⟩ :: ⟨true, (.lit (0)), (.var 0), true⟩ :: ⟨false, (.lit (8)), (.lin (1) [(2, 1), (6, 1)]), false⟩ :: ⟨true, (.lit (0)), (.var 2), true⟩ :: hpB
noncomputable def hpP29 : MemoR := ⟨70, hpPA, hpPO, hpF29, 4615, hpV0, somes [hpO0, hpO1, hpO16, hpO11, hpO17, hpO5, hpO6, hpO7, hpO8, hpO9, hpO10], hpR3⟩
noncomputable def hpF30 : List Fact := ⟨true, (.lit (5)), (.var 0), true⟩ :: ⟨true, (.lit (4)), (.lin (1) [(2, 1), (6, 1)]), true⟩ :: ⟨true, (.lit (4)), (.var 2), false⟩ :: ⟨true, (.lin (1) [(2, 1), (6, 1)]), (.lit (8)), true⟩ :: ⟨true, (.lin (1) [(0, 1), (4, 1)]), (.lit (10)), true⟩ :: ⟨false, (.lit (10)), (.lin (1) [(0, 1), (4, 1)]), false⟩ :: ⟨true, (.lit (10)), (.lin (1) [(0, 1), (4, 1)]), false⟩ :: ⟨true, (.lit (0)), (.var 0), true⟩ :: ⟨false, (.lit (8)), (.lin (1) [(2, 1), (6, 1)]), false⟩ :: ⟨true, (.lit (0)), (.var 2), true⟩ :: hpB
noncomputable def hpP30 : MemoR := ⟨70, hpPA, hpPO, hpF30, 4615, hpV0, somes [hpO0, hpO1, hpO16, hpO11, hpO17, hpO5, hpO6, hpO7, hpO8, hpO9, hpO10], hpR3⟩
noncomputable def hpF31 : List Fact := ⟨true, (.lit (5)), (.lin (1) [(0, 1), (4, 1)]), true⟩ :: ⟨true, (.lit (5)), (.var 0), false⟩ :: ⟨true, (.lit (4)), (.lin (1) [(2, 1), (6, 1)]), true⟩ :: ⟨true, (.lit (4)), (.var 2), false⟩ :: ⟨true, (.lin (1) [(2, 1), (6, 1)]), (.lit (8)), true⟩ :: ⟨true, (.lin (1) [(0, 1), (4, 1)]), (.lit (10)), true⟩ :: ⟨false, (.lit (10)), (.lin (1) [(0, 1), (4, 1)]), false⟩ :: ⟨true, (.lit (10)), (.lin (1) [(0, 1), (4, 1)]), false⟩ :: ⟨true, (.lit (0)), (.var 0), true⟩ :: ⟨false, (.lit (8)), (.lin (1) [(2, 1), (6, 1)]), false⟩ :: ⟨true, (.lit (0)), (.var 2), true⟩ :: hpB
noncomputable def hpP31 : MemoR := ⟨70, hpPA, hpPO, hpF31, 4615, hpV1, somes [hpO0, hpO1, hpO16, hpO11, hpO17, hpO5, hpO6, hpO7, hpO8, hpO9, hpO10], hpR3⟩
noncomputable def hpF32 : List Fact := ⟨true, (.lit (5)), (.lin (1) [(0, 1), (4, 1)]), false⟩ :: ⟨true, (.lit (5)), (.var 0), false⟩ :: ⟨true, (.lit (4)), (.lin (1) [(2, 1), (6, 1)]), true⟩ :: ⟨true, (.lit (4)), (.var 2), false⟩ :: ⟨true, (.lin (1) [(2, 1), (6, 1)]), (.lit (8)), true⟩ :: ⟨true, (.lin (1) [(0, 1), (4, 1)]), (.lit (10)), true⟩ :: ⟨false, (.lit (10)), (.lin (1) [(0, 1), (4, 1)]), false⟩ :: ⟨true, (.lit (10)), (.lin (1) [(0, 1), (4, 1)]), false⟩ :: ⟨true, (.lit (0)), (.var 0), true⟩ :: ⟨false, (.lit (8)), (.lin (1) [(2, 1), (6, 1)]), false⟩ :: ⟨true, (.lit (0)), (.var 2), true⟩ :: hpB
noncomputable def hpP32 : MemoR := ⟨70, hpPA, hpPO, hpF32, 4615, hpV0, somes [hpO0, hpO1, hpO16, hpO11, hpO17, hpO5, hpO6, hpO7, hpO8, hpO9, hpO10], hpR3⟩
noncomputable def hpF33 : List Fact := ⟨true, (.lit (4)), (.lin (1) [(2, 1), (6, 1)]), false⟩ :: ⟨true, (.lit (4)), (.var 2), false⟩ :: ⟨true, (.lin (1) [(2, 1), (6, 1)]), (.lit (8)), true⟩ :: ⟨true, (.lin (1) [(0, 1), (4, 1)]), (.lit (10)), true⟩ :: ⟨false, (.lit (10)), (.lin (1) [(0, 1), (4, 1)]), false⟩ :: ⟨true, (.lit (10)), (.lin (1) [(0, 1), (4, 1)]), false⟩ :: ⟨true, (.lit (0)), (.var 0), true⟩ :: ⟨false, (.lit (8)), (.lin (1) [(2, 1), (6, 1)]), false⟩ :: ⟨true, (.lit (0)), (.var 2), true⟩ :: hpB
noncomputable def hpP33 : MemoR := ⟨70, hpPA, hpPO, hpF33, 4615, hpV0, somes [hpO0, hpO1, hpO16, hpO11, hpO17, hpO5, hpO6, hpO7, hpO8, hpO9, hpO10], hpR3⟩
noncomputable def hpF45 : List Fact := ⟨true, (.lit (4)), (.var 2), true⟩ :: ⟨true, (.lin (1) [(2, 1), (6, 1)]), (.lit (8)), true⟩ :: ⟨true, (.lit (0)), (.var 0), false⟩ :: ⟨false, (.lit (8)), (.lin (1) [(2, 1), (6, 1)]), false⟩ :: ⟨true, (.lit (0)), (.var 2), true⟩ :: hpB
noncomputable def hpP45 : MemoR := ⟨70, hpPA, hpPO, hpF45, 4615, hpV0, somes [hpO0, hpO1, hpO12, hpO11, hpO18, hpO5, hpO6, hpO7, hpO8, hpO9, hpO10], hpR2⟩
noncomputable def hpF46 : List Fact := ⟨true, (.lit (4)), (.lin (1) [(2, 1), (6, 1)]), true⟩ :: ⟨true, (.lit (4)), (.var 2), false⟩ :: ⟨true, (.lin (1) [(2, 1), (6, 1)]), (.lit (8)), true⟩ :: ⟨true, (.lit (0)), (.var 0), false⟩ :: ⟨false, (.lit (8)), (.lin (1) [(2, 1), (6, 1)]), false⟩ :: ⟨true, (.lit (0)), (.var 2), true⟩ :: hpB
noncomputable def hpP46 : MemoR := ⟨70, hpPA, hpPO, hpF46, 4615, hpV0, somes [hpO0, hpO1, hpO12, hpO11, hpO18, hpO5, hpO6, hpO7, hpO8, hpO9, hpO10], hpR2⟩
noncomputable def hpF47 : List Fact := ⟨true, (.lit (4)), (.lin (1) [(2, 1), (6, 1)]), false⟩ :: ⟨true, (.lit (4)), (.var 2), false⟩ :: ⟨true, (.lin (1) [(2, 1), (6, 1)]), (.lit (8)), true⟩ :: ⟨true, (.lit (0)), (.var 0), false⟩ :: ⟨false, (.lit (8)), (.lin (1) [(2, 1), (6, 1)]), false⟩ :: ⟨true, (.lit (0)), (.var 2), true⟩ :: hpB
noncomputable def hpP47 : MemoR := ⟨70, hpPA, hpPO, hpF47, 4615, hpV0, somes [hpO0, hpO1, hpO12, hpO11, hpO18, hpO5, hpO6, hpO7, hpO8, hpO9, hpO10], hpR2⟩
noncomputable def hpF50 : List Fact := ⟨true, (.lit (10)), (.lin (1) [(0, 1), (4, 1)]), true⟩ :: ⟨true, (.lit (0)), (.var 0), true⟩ :: ⟨true, (.lit (0)), (.var 2), false⟩ :: hpB
noncomputable def hpP50 : MemoR := ⟨70, hpPA, hpPO, hpF50, 4615, hpV0, somes [hpO0, hpO1, hpO2, hpO3, hpO19, hpO5, hpO6, hpO7, hpO8, hpO9, hpO10], hpR0⟩
noncomputable def hpF51 : List Fact := ⟨false, (.lit (10)), (.lin (1) [(0, 1), (4, 1)]), true⟩ :: ⟨true, (.lit (10)), (.lin (1) [(0, 1), (4, 1)]), false⟩ :: ⟨true, (.lit (0)), (.var 0), true⟩ :: ⟨true, (.lit (0)), (.var 2), false⟩ :: hpB
noncomputable def hpP51 : MemoR := ⟨70, hpPA, hpPO, hpF51, 4615, hpV0, somes [hpO0, hpO1, hpO2, hpO11, hpO19, hpO5, hpO6, hpO7, hpO8, hpO9, hpO10], hpR0⟩
noncomputable def hpF52 : List Fact := ⟨true, (.lin (1) [(0, 1), (4, 1)]), (.lit (10)), true⟩ :: ⟨false, (.lit (10)), (.lin (1) [(0, 1), (4, 1)]), false⟩ :: ⟨true, (.lit (10)), (.lin (1) [(0, 1), (4, 1)]), false⟩ :: ⟨true, (.lit (0)), (.var 0), true⟩ :: ⟨true, (.lit (0)), (.var 2), false⟩ :: hpB
noncomputable def hpP52 : MemoR := ⟨70, hpPA, hpPO, hpF52, 4615, hpV0, somes [hpO0, hpO1, hpO12, hpO11, hpO20, hpO5, hpO6, hpO7, hpO8, hpO9, hpO10], hpR4⟩
noncomputable def hpF54 : List Fact := ⟨true, (.lit (0)), (.var 0), false⟩ :: ⟨true, (.lit (0)), (.var 2), false⟩ :: hpB
noncomputable def hpP54 : MemoR := ⟨70, hpPA, hpPO, hpF54, 4615, hpV0, somes [hpO0, hpO1, hpO2, hpO11, hpO21, hpO5, hpO6, hpO7, hpO8, hpO9, hpO10], hpR0⟩
/-- The bounds. -/
structure Bnd (ρ : Nat → Int) : Prop where
  b0 : 0 ≤ ρ 0 ∧ ρ 0 ≤ 7
  b2 : 0 ≤ ρ 2 ∧ ρ 2 ≤ 5
  b4 : 0 ≤ ρ 4 ∧ ρ 4 ≤ 3
  b6 : 0 ≤ ρ 6 ∧ ρ 6 ≤ 2
theorem hpX0 {ρ : Nat → Int} (b : Bnd ρ) (h0 : ¬ (4 : Int) < ρ 2) (h1 : (8 : Int) = (1 + (1 * ρ 2 + (1 * ρ 6 + 0)))) : False := by
  have b0 := b.b0; have b2 := b.b2; have b4 := b.b4; have b6 := b.b6
  omega
theorem hpX1 {ρ : Nat → Int} (b : Bnd ρ) (h0 : ¬ (1 + (1 * ρ 0 + (1 * ρ 4 + 0))) < (10 : Int)) (h1 : ¬ (10 : Int) = (1 + (1 * ρ 0 + (1 * ρ 4 + 0)))) (h2 : ¬ (10 : Int) < (1 + (1 * ρ 0 + (1 * ρ 4 + 0)))) : False := by
  have b0 := b.b0; have b2 := b.b2; have b4 := b.b4; have b6 := b.b6
  omega
theorem hpX2 {ρ : Nat → Int} (b : Bnd ρ) (h0 : ¬ (5 : Int) < ρ 0) (h1 : (10 : Int) < (1 + (1 * ρ 0 + (1 * ρ 4 + 0)))) : False := by
  have b0 := b.b0; have b2 := b.b2; have b4 := b.b4; have b6 := b.b6
  omega
theorem hpX3 {ρ : Nat → Int} (b : Bnd ρ) (h0 : ¬ (1 + (1 * ρ 2 + (1 * ρ 6 + 0))) < (8 : Int)) (h1 : ¬ (8 : Int) = (1 + (1 * ρ 2 + (1 * ρ 6 + 0)))) : False := by
  have b0 := b.b0; have b2 := b.b2; have b4 := b.b4; have b6 := b.b6
  omega
theorem hpX4 {ρ : Nat → Int} (b : Bnd ρ) (h0 : ¬ (5 : Int) < ρ 0) (h1 : (10 : Int) = (1 + (1 * ρ 0 + (1 * ρ 4 + 0)))) : False := by
  have b0 := b.b0; have b2 := b.b2; have b4 := b.b4; have b6 := b.b6
  omega
theorem hpX5 {ρ : Nat → Int} (b : Bnd ρ) (h0 : ¬ (0 + (1 * ρ 2 + (1 * ρ 9 + 0))) < (1 + (1 * ρ 2 + (1 * ρ 6 + 0)))) (h1 : ¬ (7 : Int) < (0 + (1 * ρ 2 + (1 * ρ 9 + 0)))) (h2 : (8 : Int) = (1 + (1 * ρ 2 + (1 * ρ 6 + 0)))) : False := by
  have b0 := b.b0; have b2 := b.b2; have b4 := b.b4; have b6 := b.b6
  omega
theorem hpX6 {ρ : Nat → Int} (b : Bnd ρ) (h0 : ¬ (0 + (1 * ρ 0 + (1 * ρ 8 + 0))) < (1 + (1 * ρ 0 + (1 * ρ 4 + 0)))) (h1 : ¬ (9 : Int) < (0 + (1 * ρ 0 + (1 * ρ 8 + 0)))) (h2 : (10 : Int) < (1 + (1 * ρ 0 + (1 * ρ 4 + 0)))) : False := by
  have b0 := b.b0; have b2 := b.b2; have b4 := b.b4; have b6 := b.b6
  omega
theorem hpX7 {ρ : Nat → Int} (b : Bnd ρ) (h0 : ¬ (9 : Int) < (0 + (1 * ρ 0 + (1 * ρ 8 + 0)))) (h1 : (0 + (1 * ρ 0 + (1 * ρ 4 + 0))) < (0 + (1 * ρ 0 + (1 * ρ 8 + 0)))) (h2 : (10 : Int) = (1 + (1 * ρ 0 + (1 * ρ 4 + 0)))) : False := by
  have b0 := b.b0; have b2 := b.b2; have b4 := b.b4; have b6 := b.b6
  omega
theorem hpX8 {ρ : Nat → Int} (b : Bnd ρ) (h0 : ¬ (0 + (1 * ρ 0 + (1 * ρ 8 + 0))) < (10 : Int)) (h1 : ¬ (0 + (1 * ρ 0 + (1 * ρ 4 + 0))) < (0 + (1 * ρ 0 + (1 * ρ 8 + 0)))) (h2 : ¬ (10 : Int) < (1 + (1 * ρ 0 + (1 * ρ 4 + 0)))) : False := by
  have b0 := b.b0; have b2 := b.b2; have b4 := b.b4; have b6 := b.b6
  omega
theorem hpX9 {ρ : Nat → Int} (b : Bnd ρ) (h0 : (32767 : Int) < (0 + (1 * ρ 0 + (1 * ρ 8 + 0)))) (h1 : ¬ (0 + (1 * ρ 0 + (1 * ρ 4 + 0))) < (0 + (1 * ρ 0 + (1 * ρ 8 + 0)))) : False := by
  have b0 := b.b0; have b2 := b.b2; have b4 := b.b4; have b6 := b.b6
  omega
theorem hpX10 {ρ : Nat → Int} (b : Bnd ρ) (h0 : (9 : Int) < (0 + (1 * ρ 0 + (1 * ρ 8 + 0)))) (h1 : ¬ (0 + (1 * ρ 0 + (1 * ρ 4 + 0))) < (0 + (1 * ρ 0 + (1 * ρ 8 + 0)))) (h2 : ¬ (10 : Int) < (1 + (1 * ρ 0 + (1 * ρ 4 + 0)))) : False := by
  have b0 := b.b0; have b2 := b.b2; have b4 := b.b4; have b6 := b.b6
  omega
theorem hpX11 {ρ : Nat → Int} (b : Bnd ρ) (h0 : (9 : Int) < (0 + (1 * ρ 0 + (1 * ρ 8 + 0)))) (h1 : (0 + (1 * ρ 0 + (1 * ρ 8 + 0))) < ρ 0) : False := by
  have b0 := b.b0; have b2 := b.b2; have b4 := b.b4; have b6 := b.b6
  omega
theorem hpX12 {ρ : Nat → Int} (b : Bnd ρ) (h0 : ¬ (0 + (1 * ρ 0 + (1 * ρ 8 + 0))) < (0 : Int)) (h1 : (0 + (1 * ρ 0 + (1 * ρ 8 + 0))) < ρ 0) (h2 : ¬ (0 : Int) < ρ 0) : False := by
  have b0 := b.b0; have b2 := b.b2; have b4 := b.b4; have b6 := b.b6
  omega
theorem hpX13 {ρ : Nat → Int} (b : Bnd ρ) (h0 : (0 + (1 * ρ 0 + (1 * ρ 8 + 0))) < (0 : Int)) (h1 : ¬ (0 + (1 * ρ 0 + (1 * ρ 8 + 0))) < ρ 0) : False := by
  have b0 := b.b0; have b2 := b.b2; have b4 := b.b4; have b6 := b.b6
  omega
theorem hpX14 {ρ : Nat → Int} (b : Bnd ρ) (h0 : (7 : Int) < (0 + (1 * ρ 2 + (1 * ρ 9 + 0)))) (h1 : (0 + (1 * ρ 2 + (1 * ρ 9 + 0))) < ρ 2) : False := by
  have b0 := b.b0; have b2 := b.b2; have b4 := b.b4; have b6 := b.b6
  omega
theorem hpX15 {ρ : Nat → Int} (b : Bnd ρ) (h0 : ¬ (0 + (1 * ρ 2 + (1 * ρ 9 + 0))) < (0 : Int)) (h1 : (0 + (1 * ρ 2 + (1 * ρ 9 + 0))) < ρ 2) (h2 : ¬ (0 : Int) < ρ 2) : False := by
  have b0 := b.b0; have b2 := b.b2; have b4 := b.b4; have b6 := b.b6
  omega
theorem hpX16 {ρ : Nat → Int} (b : Bnd ρ) (h0 : (0 + (1 * ρ 2 + (1 * ρ 9 + 0))) < (0 : Int)) (h1 : ¬ (0 + (1 * ρ 2 + (1 * ρ 9 + 0))) < ρ 2) : False := by
  have b0 := b.b0; have b2 := b.b2; have b4 := b.b4; have b6 := b.b6
  omega
end Ev
end Go.Proofs.YtmghbbicjkmigaaGreatDoor
