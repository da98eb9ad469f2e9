/- The functions' own form, printed by a tool of this session out of the given translation. -/
import Derived.Test.YtimiademofajeaaGreatDoorPVf
import Derived.Test.YtimiademofajeaaGreatDoorChecked
import Derived.KernelRfl
namespace Go.Proofs.YtimiademofajeaaGreatDoor
open Go Go.Vm
def glN : List Int := [0, 1, 56, 2, 57, 49, 28, 3, 61, 58, 42, 50, 38, 29, 17, 4, 62, 47, 59, 36, 45, 43, 51, 22, 53, 39, 33, 30, 24, 18, 12, 5, 63, 55, 48, 27, 60, 41, 37, 16, 46, 35, 44, 21, 52, 32, 23, 11, 54, 26, 40, 15, 34, 20, 31, 10, 25, 14, 19, 9, 13, 8, 7, 6]
def glV : List V := glN.map (.int .u8)
def glT : List (Nat × List V) := [(0, glV)]
abbrev n_undertowlaw23_GmoHarts : Nat := 6
abbrev n_undertowlaw23_alive : Nat := 7
abbrev n_undertowref20_Great : Nat := 8
abbrev n_gmo_Judge : Nat := 9
abbrev n_gmo_Search : Nat := 11
abbrev n_gmo_Must : Nat := 12
abbrev n_cand_Check : Nat := 13
abbrev n_rel_Rel_Fits : Nat := 14
abbrev n_undertowlaw23_one : Nat := 15
abbrev n_rel_Rel_Len : Nat := 16
abbrev n_gmo_look : Nat := 17
abbrev n_gmo_view_places : Nat := 18
abbrev n_ppo_All : Nat := 19
abbrev n_gmo_view_ordered : Nat := 20
abbrev n_gmo_view_latest : Nat := 21
abbrev n_gmo_view_atomic : Nat := 22
abbrev n_gmo_Judge_1 : Nat := 23
abbrev n_gmo_view_may : Nat := 33
abbrev n_gmo_view_must : Nat := 34
abbrev n_rel_Rel_Order : Nat := 35
abbrev n_cand_Events : Nat := 36
abbrev n_cand_faults : Nat := 37
abbrev n_rel_Rel_is : Nat := 38
abbrev n_rel_Rel_Pairs : Nat := 39
abbrev n_ppo_look : Nat := 40
abbrev n_rel_New : Nat := 41
abbrev n_ppo_rules : Nat := 42
abbrev n_ppo_view_into : Nat := 43
abbrev n_gmo_view_stores : Nat := 44
abbrev n_gmo_view_ahead : Nat := 45
abbrev n_gmo_view_named : Nat := 46
abbrev n_gmo_view_pair : Nat := 47
abbrev n_gmo_view_stale : Nat := 56
abbrev n_gmo_view_may_1 : Nat := 57
abbrev n_rel_Rel_Add : Nat := 58
abbrev n_gmo_view_read : Nat := 59
abbrev n_rel_row_each : Nat := 60
abbrev n_cand_isEvent : Nat := 61
abbrev n_ops_Loads : Nat := 62
abbrev n_ops_Stores : Nat := 63
abbrev n_ops_Size : Nat := 64
abbrev n_cand_look_image : Nat := 65
abbrev n_cand_look_many : Nat := 66
abbrev n_cand_look_ids : Nat := 67
abbrev n_cand_look_places : Nat := 68
abbrev n_cand_look_tags : Nat := 69
abbrev n_cand_look_bytes : Nat := 70
abbrev n_cand_look_orders : Nat := 71
abbrev n_cand_look_pairs : Nat := 72
abbrev n_deps_Address : Nat := 73
abbrev n_deps_Data : Nat := 74
abbrev n_deps_Course : Nat := 75
abbrev n_ppo_view_same : Nat := 76
abbrev n_ppo_view_loads : Nat := 77
abbrev n_ppo_view_written : Nat := 78
abbrev n_ppo_view_fenced : Nat := 79
abbrev n_ppo_rules_1 : Nat := 80
abbrev n_ppo_rules_2 : Nat := 81
abbrev n_ppo_rules_3 : Nat := 82
abbrev n_ppo_strong : Nat := 83
abbrev n_ppo_view_paired : Nat := 84
abbrev n_ppo_rules_4 : Nat := 85
abbrev n_ppo_view_hangs : Nat := 86
abbrev n_ppo_byAddress : Nat := 87
abbrev n_ppo_rules_5 : Nat := 88
abbrev n_ppo_byData : Nat := 89
abbrev n_ppo_rules_6 : Nat := 90
abbrev n_ppo_byCourse : Nat := 91
abbrev n_ppo_view_through : Nat := 92
abbrev n_ppo_view_known : Nat := 93
abbrev n_cand_Byte : Nat := 94
abbrev n_ops_Sort : Nat := 95
abbrev n_rel_row_add : Nat := 103
abbrev n_math_bits_TrailingZeros64 : Nat := 104
abbrev n_ops_Memory : Nat := 105
abbrev n_slices_ContainsFunc_api_Event_api_Event : Nat := 106
abbrev n_cand_look_places_1 : Nat := 107
abbrev n_alu_Where : Nat := 108
abbrev n_cand_look_writer : Nat := 109
abbrev n_word_Zext : Nat := 110
abbrev n_word_Bytes : Nat := 111
abbrev n_deps_along : Nat := 112
abbrev n_deps_Address_1 : Nat := 113
abbrev n_deps_roots_of : Nat := 114
abbrev n_deps_first : Nat := 115
abbrev n_deps_Data_1 : Nat := 116
abbrev n_deps_second : Nat := 117
abbrev n_deps_Course_1 : Nat := 118
abbrev n_deps_set_join : Nat := 119
abbrev n_ops_Sources : Nat := 120
abbrev n_ppo_overlap : Nat := 121
abbrev n_ppo_has : Nat := 122
abbrev n_ppo_view_between : Nat := 123
abbrev n_ppo_returns : Nat := 124
abbrev n_ppo_orders : Nat := 125
abbrev n_rel_Rel_Has : Nat := 126
abbrev n_cand_has : Nat := 127
abbrev n_slices_IndexFunc_api_Event_api_Event : Nat := 133
abbrev n_deps_set_each : Nat := 134
abbrev n_deps_roots_behind : Nat := 135
abbrev n_ops_register : Nat := 136
abbrev n_word_Overlap : Nat := 137
abbrev n_slices_Contains_int_int : Nat := 138
abbrev n_rel_row_has : Nat := 139
abbrev n_ops_Target : Nat := 141
abbrev n_deps_gives : Nat := 142
abbrev n_word_isRange : Nat := 143
abbrev n_slices_Index_int_int : Nat := 144
abbrev zz0 : List V := [.int .i64 0,.int .i64 0,.int .u64 0,.int .i64 0,.int .i64 0,.int .i64 0,.int .i64 0,.int .i64 0,.bool false,.bool false,.int .i64 0,.int .i64 0,.int .i64 0,.int .u64 0,.int .u64 0,.int .u64 0,.int .u64 0,.bool false,.int .i64 0,.flt 0,.int .i64 0,.int .i64 0,.int .i64 0,.int .i64 0,.int .i64 0,.int .i64 0,.int .i64 0,.int .i64 0,.int .i64 0,.bool false,.bool false,.int .i64 0,.int .i64 0]
abbrev zz1 : List V := [.int .u64 0,.int .i64 0,.int .i64 0,.int .i64 0,.int .i64 0,.int .i64 0,.bool false,.bool false,.int .i64 0,.int .i64 0,.int .i64 0,.int .u64 0,.int .u64 0,.int .u64 0,.int .u64 0,.bool false,.int .i64 0,.flt 0,.int .i64 0,.int .i64 0,.int .i64 0,.int .i64 0,.int .i64 0,.int .i64 0,.int .i64 0,.int .i64 0,.int .i64 0]
abbrev zz2 : List V := [.int .u64 0,.int .u64 0,.int .u64 0,.int .u64 0,.int .u64 0,.int .u64 0,.int .u64 0,.int .u64 0]
attribute [go_sem] zz0 zz1 zz2
def h6 : Vm.Hint := ⟨[0,1,2,3,6,7,8,9,11,13,15,17],[3,7],[],[[1,0],[0,0],[0],[0,0],[0],[0,2,0],[0,0,0,0,0,0,0,0],[0,0,0,0,0,0,0,0],[0,0,0,0,0,0,0,0],[0,0,0,0,0,0,0],[0,0,0,0,0,0,0],[0,0,0,0]],[([0,4],[]),([],[]),([1,2,3,10],[(true,0)]),([10],[]),([1,2,3,11],[(true,0)]),([11],[]),([1,2],[]),([],[]),([6,7],[]),([3],[(true,0)]),([5],[(true,1)]),([8,9],[])],[]⟩
def ir_undertowlaw23_GmoHarts : Vm.Fn := ⟨[0,1,2,3,6,7,8,9,11,13,15,17],2,0,[.slot 4],.seq (.seq (.reg [⟨.lbox 0 5 (.s 0),none⟩,⟨.mv (.c (.bool false)),none⟩] [(true,0)] [] [(3,0,some 1),(4,1,none)])
 (.drop [0,4] []))
 (.seq (.seq (.reg [⟨.call .val n_undertowlaw23_alive [],none⟩,⟨.un .not (.r 0),none⟩] [] [] [(10,1,none)])
 (.cond (.s 10) (.seq (.seq (.reg [⟨.mv (.c (.bool false)),none⟩] [] [] [(4,0,none)])
  (.drop [1,2,3,10] [(true,0)]))
  (.ret))
  (.skip)))
 (.seq (.seq (.seq (.reg [⟨.load 0 true 5 (.s 3),none⟩,⟨.call .val n_undertowref20_Great [(.r 0)],none⟩] [] [] [(11,1,none)])
 (.drop [10] []))
 (.cond (.s 11) (.seq (.seq (.reg [⟨.mv (.c (.bool true)),none⟩] [] [] [(4,0,none)])
  (.drop [1,2,3,11] [(true,0)]))
  (.ret))
  (.skip)))
 (.seq (.seq (.reg [⟨.load 0 true 5 (.s 3),none⟩,⟨.lalloc 1 [.nils,.nils,.nils,.nils,.nils],none⟩,⟨.store 0 5 (.r 1) (.r 0),none⟩] [(true,1)] [] [(5,1,some 3)])
 (.drop [11] []))
 (.seq (.seq (.reg [⟨.mv (.s 1),none⟩,⟨.bin .rem (.r 0) (.c (.int .u8 3)),none⟩,⟨.i2i .i64 (.r 1),none⟩,⟨.mv (.s 2),none⟩,⟨.bin .rem (.r 3) (.c (.int .u8 3)),none⟩,⟨.i2i .i64 (.r 4),none⟩,⟨.mv (.r 2),none⟩,⟨.mv (.r 5),none⟩] [] [] [(6,6,none),(7,7,none)])
 (.drop [1,2] []))
 (.seq (.reg [⟨.mv (.s 6),none⟩,⟨.mv (.s 7),none⟩,⟨.off 1 (.s 3),none⟩,⟨.iaA 3 1 (.r 2) (.r 1),none⟩,⟨.load 0 false 1 (.r 3),none⟩,⟨.off 1 (.s 5),none⟩,⟨.iaA 3 1 (.r 5) (.r 0),none⟩,⟨.store 0 1 (.r 6) (.r 4),none⟩] [] [] [])
 (.seq (.seq (.reg [⟨.mv (.s 7),none⟩,⟨.mv (.s 6),none⟩,⟨.off 1 (.s 3),none⟩,⟨.iaA 3 1 (.r 2) (.r 1),none⟩,⟨.load 0 false 1 (.r 3),none⟩,⟨.off 1 (.s 5),none⟩,⟨.iaA 3 1 (.r 5) (.r 0),none⟩,⟨.store 0 1 (.r 6) (.r 4),none⟩] [] [] [])
 (.drop [6,7] []))
 (.seq (.seq (.reg [⟨.load 0 true 5 (.s 3),none⟩,⟨.call .val n_gmo_Search [(.r 0)],none⟩,⟨.mv (.r 1),none⟩,⟨.ext (.r 2) 0,none⟩,⟨.ext (.r 2) 1,none⟩,⟨.mv (.r 3),none⟩,⟨.mv (.r 4),none⟩] [] [] [(8,6,none)])
 (.drop [3] [(true,0)]))
 (.seq (.seq (.reg [⟨.load 0 true 5 (.s 5),none⟩,⟨.call .val n_gmo_Search [(.r 0)],none⟩,⟨.mv (.r 1),none⟩,⟨.ext (.r 2) 0,none⟩,⟨.ext (.r 2) 1,none⟩,⟨.mv (.r 3),none⟩,⟨.mv (.r 4),none⟩] [] [] [(9,6,none)])
 (.drop [5] [(true,1)]))
 (.seq (.seq (.reg [⟨.mv (.s 8),none⟩,⟨.mv (.s 9),none⟩,⟨.bin .eql (.r 0) (.r 1),none⟩,⟨.mv (.r 2),none⟩] [] [] [(4,3,none)])
 (.drop [8,9] []))
 (.ret))))))))))⟩
def h7 : Vm.Hint := ⟨[0,1,2,3,4,5,6,7,8,9],[1,6,7],[],[[0],[1,0,0,0,0,1,0],[0,0,0,0,0,0],[0,0,0,0,0,0],[0,0,0,0,0,0,0],[0,0,0,0],[0,0,0,0],[0,2,0],[0,0,0,0],[0,0,0,0],[0,3,0],[0,0],[0,0,0,0,0,0,0,0,0,0,0,0,0,0,0],[0,0,0,0,0,0,0,0,0,0,0,0,0,0,0],[0,0,0,0,0,0,0],[0,0,0,0,0,0,0,0,0,0,0,0,0,0,0,0,0,0,0,0,0,0,0,0,0,0,0,0,0,0,0]],[([0],[]),([],[]),([],[]),([],[]),([],[]),([],[]),([],[]),([],[]),([],[]),([],[]),([],[]),([],[]),([6],[(true,1)]),([7],[(true,2)]),([],[]),([1,2,3,4,5,8,9],[(true,0)])],[]⟩
def ir_undertowlaw23_alive : Vm.Fn := ⟨[0,1,2,3,4,5,6,7,8,9],3,0,[.slot 0],.seq (.seq (.reg [⟨.mv (.c (.bool false)),none⟩] [] [] [(0,0,none)])
 (.drop [0] []))
 (.seq (.reg [⟨.mksv [.int .u8 0] 1 (.c (.int .i64 2)) (.c (.int .i64 2)),none⟩,⟨.lit 0 1 [[.int .i64 0]] [(0,(.c (.int .i64 0)))],none⟩,⟨.lit 0 1 [[.int .i64 0]] [(0,(.c (.int .i64 1)))],none⟩,⟨.lit 0 1 [[.nils],[.nils]] [(0,(.r 1)),(1,(.r 2))],none⟩,⟨.build [.nils,.nils,.nils,.nils,.nils] [(0,1,(.r 0)),(4,1,(.r 3))],none⟩,⟨.lalloc 0 [.nils,.nils,.nils,.nils,.nils],none⟩,⟨.store 0 5 (.r 5) (.r 4),none⟩] [(true,0)] [] [(1,5,some 1)])
 (.seq (.reg [⟨.call .val n_undertowlaw23_one [(.c (.int .i64 18)),(.c (.int .i64 0)),(.c (.int .u64 0))],none⟩,⟨.call .val n_undertowlaw23_one [(.c (.int .i64 11)),(.c (.int .i64 3)),(.c (.int .u64 1))],none⟩,⟨.lit 0 27 [zz1,zz1] [(0,(.r 0)),(1,(.r 1))],none⟩,⟨.off 1 (.s 1),none⟩,⟨.iaA 3 1 (.r 3) (.c (.int .i64 0)),none⟩,⟨.store 0 1 (.r 4) (.r 2),none⟩] [] [] [])
 (.seq (.reg [⟨.call .val n_undertowlaw23_one [(.c (.int .i64 18)),(.c (.int .i64 1)),(.c (.int .u64 1))],none⟩,⟨.call .val n_undertowlaw23_one [(.c (.int .i64 11)),(.c (.int .i64 4)),(.c (.int .u64 0))],none⟩,⟨.lit 0 27 [zz1,zz1] [(0,(.r 0)),(1,(.r 1))],none⟩,⟨.off 1 (.s 1),none⟩,⟨.iaA 3 1 (.r 3) (.c (.int .i64 1)),none⟩,⟨.store 0 1 (.r 4) (.r 2),none⟩] [] [] [])
 (.seq (.reg [⟨.load 0 true 5 (.s 1),none⟩,⟨.call .val n_gmo_Search [(.r 0)],none⟩,⟨.mv (.r 1),none⟩,⟨.ext (.r 2) 0,none⟩,⟨.ext (.r 2) 1,none⟩,⟨.mv (.r 3),none⟩,⟨.mv (.r 4),none⟩] [] [] [(2,5,none),(3,6,none)])
 (.seq (.reg [⟨.load 0 true 5 (.s 1),none⟩,⟨.mv (.s 2),none⟩,⟨.call .val n_gmo_Judge [(.r 0),(.r 1)],none⟩,⟨.mv (.r 2),none⟩] [] [] [(4,3,none)])
 (.seq (.reg [⟨.load 0 true 5 (.s 1),none⟩,⟨.lit 0 1 [[.int .i64 0],[.int .i64 0],[.int .i64 0]] [(0,(.c (.int .i64 0))),(1,(.c (.int .i64 1))),(2,(.c (.int .i64 2)))],none⟩,⟨.call .val n_gmo_Judge [(.r 0),(.r 1)],none⟩,⟨.mv (.r 2),none⟩] [] [] [(5,3,none)])
 (.seq (.reg [⟨.call .val n_undertowlaw23_one [(.c (.int .i64 50)),(.c (.int .i64 6)),(.c (.int .u64 0))],none⟩,⟨.lalloc 1 zz1,none⟩,⟨.store 0 27 (.r 1) (.r 0),none⟩] [(true,1)] [] [(6,1,some 3)])
 (.seq (.reg [⟨.off 0 (.s 6),none⟩,⟨.off 1 (.r 0),none⟩,⟨.off 7 (.r 1),none⟩,⟨.store 0 1 (.r 2) (.c (.int .i64 3)),none⟩] [] [] [])
 (.seq (.reg [⟨.off 0 (.s 6),none⟩,⟨.off 1 (.r 0),none⟩,⟨.off 8 (.r 1),none⟩,⟨.store 0 1 (.r 2) (.c (.int .i64 3)),none⟩] [] [] [])
 (.seq (.reg [⟨.load 0 true 27 (.s 6),none⟩,⟨.lalloc 2 zz1,none⟩,⟨.store 0 27 (.r 1) (.r 0),none⟩] [(true,2)] [] [(7,1,some 5)])
 (.seq (.reg [⟨.off 16 (.s 7),none⟩,⟨.store 0 1 (.r 0) (.c (.int .i64 7)),none⟩] [] [] [])
 (.seq (.seq (.reg [⟨.off 1 (.s 1),none⟩,⟨.iaA 3 1 (.r 0) (.c (.int .i64 0)),none⟩,⟨.load 0 false 1 (.r 1),none⟩,⟨.iaS 27 (.r 2) (.c (.int .i64 0)),none⟩,⟨.load 0 true 27 (.r 3),none⟩,⟨.load 0 true 27 (.s 6),none⟩,⟨.off 1 (.s 1),none⟩,⟨.iaA 3 1 (.r 6) (.c (.int .i64 0)),none⟩,⟨.load 0 false 1 (.r 7),none⟩,⟨.iaS 27 (.r 8) (.c (.int .i64 1)),none⟩,⟨.load 0 true 27 (.r 9),none⟩,⟨.lit 0 27 [zz1,zz1,zz1] [(0,(.r 4)),(1,(.r 5)),(2,(.r 10))],none⟩,⟨.off 1 (.s 1),none⟩,⟨.iaA 3 1 (.r 12) (.c (.int .i64 0)),none⟩,⟨.store 0 1 (.r 13) (.r 11),none⟩] [] [(2,5),(2,8),(2,9),(2,10),(3,5),(3,8),(3,9),(3,10),(4,5),(4,8),(4,9),(4,10),(5,8),(5,9),(5,10)] [])
 (.drop [6] [(true,1)]))
 (.seq (.seq (.reg [⟨.off 1 (.s 1),none⟩,⟨.iaA 3 1 (.r 0) (.c (.int .i64 1)),none⟩,⟨.load 0 false 1 (.r 1),none⟩,⟨.iaS 27 (.r 2) (.c (.int .i64 0)),none⟩,⟨.load 0 true 27 (.r 3),none⟩,⟨.load 0 true 27 (.s 7),none⟩,⟨.off 1 (.s 1),none⟩,⟨.iaA 3 1 (.r 6) (.c (.int .i64 1)),none⟩,⟨.load 0 false 1 (.r 7),none⟩,⟨.iaS 27 (.r 8) (.c (.int .i64 1)),none⟩,⟨.load 0 true 27 (.r 9),none⟩,⟨.lit 0 27 [zz1,zz1,zz1] [(0,(.r 4)),(1,(.r 5)),(2,(.r 10))],none⟩,⟨.off 1 (.s 1),none⟩,⟨.iaA 3 1 (.r 12) (.c (.int .i64 1)),none⟩,⟨.store 0 1 (.r 13) (.r 11),none⟩] [] [(2,5),(2,8),(2,9),(2,10),(3,5),(3,8),(3,9),(3,10),(4,5),(4,8),(4,9),(4,10),(5,8),(5,9),(5,10)] [])
 (.drop [7] [(true,2)]))
 (.seq (.reg [⟨.load 0 true 5 (.s 1),none⟩,⟨.call .val n_gmo_Search [(.r 0)],none⟩,⟨.mv (.r 1),none⟩,⟨.ext (.r 2) 0,none⟩,⟨.ext (.r 2) 1,none⟩,⟨.mv (.r 3),none⟩,⟨.mv (.r 4),none⟩] [] [] [(8,5,none),(9,6,none)])
 (.seq (.seq (.reg [⟨.mv (.s 3),none⟩,⟨.bin .eql (.r 0) (.c (.int .i64 0)),none⟩,⟨.mv (.r 1),none⟩,⟨.mv (.s 4),some (2,true)⟩,⟨.bin .eql (.r 3) (.c (.int .i64 0)),some (2,true)⟩,⟨.pick (.r 2) (.r 4) (.c (.bool false)),none⟩,⟨.mv (.r 5),none⟩,⟨.mv (.s 5),some (6,true)⟩,⟨.bin .eql (.r 7) (.c (.int .i64 9)),some (6,true)⟩,⟨.pick (.r 6) (.r 8) (.c (.bool false)),none⟩,⟨.mv (.r 9),none⟩,⟨.mv (.s 2),some (10,true)⟩,⟨.len 1 (.r 11),some (10,true)⟩,⟨.bin .eql (.r 12) (.c (.int .i64 4)),some (10,true)⟩,⟨.pick (.r 10) (.r 13) (.c (.bool false)),none⟩,⟨.mv (.r 14),none⟩,⟨.mv (.s 9),some (15,true)⟩,⟨.bin .eql (.r 16) (.c (.int .i64 14)),some (15,true)⟩,⟨.pick (.r 15) (.r 17) (.c (.bool false)),none⟩,⟨.mv (.r 18),none⟩,⟨.mv (.s 8),some (19,true)⟩,⟨.len 1 (.r 20),some (19,true)⟩,⟨.bin .eql (.r 21) (.c (.int .i64 0)),some (19,true)⟩,⟨.pick (.r 19) (.r 22) (.c (.bool false)),none⟩,⟨.mv (.r 23),none⟩,⟨.load 0 true 5 (.s 1),some (24,true)⟩,⟨.call .val n_gmo_Must [(.r 25)],some (24,true)⟩,⟨.call .val n_rel_Rel_Len [(.r 26)],some (24,true)⟩,⟨.bin .eql (.r 27) (.c (.int .i64 4)),some (24,true)⟩,⟨.pick (.r 24) (.r 28) (.c (.bool false)),none⟩,⟨.mv (.r 29),none⟩] [] [] [(0,30,none)])
 (.drop [1,2,3,4,5,8,9] [(true,0)]))
 (.ret))))))))))))))))⟩
def h8 : Vm.Hint := ⟨[0,1,2,3,4,14,16,24,29,38],[1],[],[[1,0],[0,0,0,0,0,0,0,0,0,0],[0],[0],[0,0],[0,0,0],[0,0,0,0,0,0],[0],[0],[0,0,0,0,0],[0,0,0],[0,0,0,0,0,0,0],[0],[0]],[([0,2],[]),([],[]),([1,5],[(true,0)]),([5],[]),([],[]),([7],[]),([6],[]),([1,3,7],[(true,0)]),([3,6],[]),([],[]),([9],[]),([8],[]),([1,4,9],[(true,0)]),([1,4,8],[(true,0)])],[]⟩
def ir_undertowref20_Greatl0 : C :=
 .seq (.seq (.reg [⟨.mv (.s 3),none⟩,⟨.bin .lss (.r 0) (.c (.int .i64 3)),none⟩] [] [] [(6,1,none)])
 (.cond (.s 6) (.skip)
  (.exit 0)))
 (.seq (.block 1 (.seq (.seq (.reg [⟨.mv (.s 3),none⟩,⟨.off 1 (.s 1),none⟩,⟨.iaA 3 1 (.r 1) (.r 0),none⟩,⟨.load 0 false 1 (.r 2),none⟩,⟨.len 1 (.r 3),none⟩,⟨.bin .gtr (.r 4) (.c (.int .i64 60)),none⟩] [] [] [(7,5,none)])
  (.drop [6] []))
  (.cond (.s 7) (.seq (.seq (.reg [⟨.mv (.c (.bool true)),none⟩] [] [] [(2,0,none)])
   (.drop [1,3,7] [(true,0)]))
   (.ret))
   (.skip))))
 (.seq (.reg [⟨.mv (.s 3),none⟩,⟨.bin .add (.r 0) (.c (.int .i64 1)),none⟩,⟨.mv (.r 1),none⟩] [] [] [(3,2,none)])
 (.drop [7] [])))
def ir_undertowref20_Greatl1 : C :=
 .seq (.seq (.reg [⟨.mv (.s 4),none⟩,⟨.off 4 (.s 1),none⟩,⟨.load 0 false 1 (.r 1),none⟩,⟨.len 1 (.r 2),none⟩,⟨.bin .lss (.r 0) (.r 3),none⟩] [] [] [(8,4,none)])
 (.cond (.s 8) (.skip)
  (.exit 2)))
 (.seq (.block 3 (.seq (.seq (.reg [⟨.off 4 (.s 1),none⟩,⟨.load 0 false 1 (.r 0),none⟩,⟨.mv (.s 4),none⟩,⟨.iaS 1 (.r 1) (.r 2),none⟩,⟨.load 0 false 1 (.r 3),none⟩,⟨.len 1 (.r 4),none⟩,⟨.bin .gtr (.r 5) (.c (.int .i64 100)),none⟩] [] [] [(9,6,none)])
  (.drop [8] []))
  (.cond (.s 9) (.seq (.seq (.reg [⟨.mv (.c (.bool true)),none⟩] [] [] [(2,0,none)])
   (.drop [1,4,9] [(true,0)]))
   (.ret))
   (.skip))))
 (.seq (.reg [⟨.mv (.s 4),none⟩,⟨.bin .add (.r 0) (.c (.int .i64 1)),none⟩,⟨.mv (.r 1),none⟩] [] [] [(4,2,none)])
 (.drop [9] [])))
def ir_undertowref20_Great : Vm.Fn := ⟨[0,1,2,3,4,14,16,24,29,38],1,0,[.slot 2],.seq (.seq (.reg [⟨.lbox 0 5 (.s 0),none⟩,⟨.mv (.c (.bool false)),none⟩] [(true,0)] [] [(1,0,some 1),(2,1,none)])
 (.drop [0,2] []))
 (.seq (.seq (.reg [⟨.off 0 (.s 1),none⟩,⟨.load 0 false 1 (.r 0),none⟩,⟨.len 1 (.r 1),none⟩,⟨.bin .gtr (.r 2) (.c (.int .i64 200)),none⟩,⟨.mv (.r 3),none⟩,⟨.off 4 (.s 1),some (4,false)⟩,⟨.load 0 false 1 (.r 5),some (4,false)⟩,⟨.len 1 (.r 6),some (4,false)⟩,⟨.bin .gtr (.r 7) (.c (.int .i64 300)),some (4,false)⟩,⟨.pick (.r 4) (.c (.bool true)) (.r 8),none⟩] [] [] [(5,9,none)])
 (.cond (.s 5) (.seq (.seq (.reg [⟨.mv (.c (.bool true)),none⟩] [] [] [(2,0,none)])
  (.drop [1,5] [(true,0)]))
  (.ret))
  (.skip)))
 (.seq (.seq (.seq (.reg [⟨.mv (.c (.int .i64 0)),none⟩] [] [] [(3,0,none)])
 (.drop [5] []))
 (.block 0 (.loop ir_undertowref20_Greatl0)))
 (.seq (.seq (.seq (.reg [⟨.mv (.c (.int .i64 0)),none⟩] [] [] [(4,0,none)])
 (.drop [3,6] []))
 (.block 2 (.loop ir_undertowref20_Greatl1)))
 (.seq (.seq (.reg [⟨.mv (.c (.bool false)),none⟩] [] [] [(2,0,none)])
 (.drop [1,4,8] [(true,0)]))
 (.ret)))))⟩
def h9 : Vm.Hint := ⟨[0,1,2,4,5,6,7,8,9,10,11,12,13,14,21,29,32,38,46,47,48,49,54,55,56,67,73,74,75,76,81,82,83,90],[2,10,13],[],[[1,0],[0,1,0,0,0,0,0],[0,0],[0,0],[0,0,1,0,0,0,0,0,0],[0,0,0],[0],[0,0,0,0,0,0],[0],[0,0,1,0,0],[0],[0,0,0,0,0,0],[0],[0,0,0,2,0,0],[0,0,0],[0],[0,0],[0,0,0,0,0,0,0,1,0,0],[0],[0,0],[0,0],[0,0,0,0,0,0],[0],[0,0,0,3,0,0],[0,0,0],[0],[0,0],[0,0,0,0,1,0],[0],[0,0],[0,0],[0]],[([0,3],[]),([],[]),([],[]),([1,2,4,5,14],[(true,0)]),([5,14],[]),([7],[]),([1,2,4,6,15],[(true,0)]),([1,2,15],[(true,0)]),([4,6,16],[]),([16],[]),([4,6,17],[]),([17],[]),([],[]),([21],[]),([],[]),([],[]),([24],[]),([10],[]),([4,6,8,9,18,19,20,22,23,25],[(true,1)]),([25],[]),([8,9,22,23,24],[(true,1)]),([18,19,20,21],[]),([],[]),([29],[]),([12],[(true,2)]),([],[]),([32],[]),([13],[]),([4,6,11,26,27,28,30,31,33],[]),([33],[]),([11,30,31,32],[]),([4,6,26,27,28,29],[])],[]⟩
def ir_gmo_Judgel0 : C :=
 .seq (.reg [⟨.bin .lss (.s 23) (.s 22),none⟩] [] [] [(24,0,none)])
 (.seq (.cond (.s 24) (.skip)
  (.exit 3))
 (.seq (.block 4 (.seq (.seq (.reg [⟨.mv (.s 23),none⟩,⟨.mv (.r 0),none⟩] [] [] [(10,1,none)])
  (.drop [24] []))
  (.seq (.seq (.reg [⟨.off 29 (.s 9),none⟩,⟨.load 0 false 1 (.r 0),none⟩,⟨.mv (.r 1),none⟩,⟨.mv (.s 4),some (2,true)⟩,⟨.load 0 false 1 (.s 6),some (2,true)⟩,⟨.mv (.s 8),some (2,true)⟩,⟨.mv (.s 10),some (2,true)⟩,⟨.call .heap n_gmo_view_latest [(.r 3),(.r 4),(.r 5),(.r 6)],some (2,true)⟩,⟨.un .not (.r 7),some (2,true)⟩,⟨.pick (.r 2) (.r 8) (.c (.bool false)),none⟩] [] [] [(25,9,none)])
  (.drop [10] []))
  (.cond (.s 25) (.seq (.seq (.reg [⟨.mv (.c (.int .i64 12)),none⟩] [] [] [(3,0,none)])
   (.drop [4,6,8,9,18,19,20,22,23,25] [(true,1)]))
   (.ret))
   (.skip)))))
 (.seq (.reg [⟨.bin .add (.s 23) (.c (.int .i64 1)),none⟩,⟨.mv (.r 0),none⟩] [] [] [(23,1,none)])
 (.drop [25] []))))
def ir_gmo_Judgel1 : C :=
 .seq (.reg [⟨.bin .lss (.s 20) (.s 19),none⟩] [] [] [(21,0,none)])
 (.seq (.cond (.s 21) (.skip)
  (.exit 1))
 (.seq (.block 2 (.seq (.seq (.reg [⟨.mv (.s 20),none⟩,⟨.iaS 33 (.s 18) (.s 20),none⟩,⟨.load 0 true 33 (.r 1),none⟩,⟨.lalloc 1 zz0,none⟩,⟨.mv (.r 0),none⟩,⟨.store 0 33 (.r 3) (.r 2),none⟩] [(true,1)] [] [(8,4,none),(9,3,some 3)])
  (.drop [21] []))
  (.seq (.reg [⟨.off 32 (.s 9),none⟩,⟨.load 0 false 1 (.r 0),none⟩,⟨.mv (.c (.int .i64 0)),none⟩] [] [] [(22,1,none),(23,2,none)])
  (.block 3 (.loop ir_gmo_Judgel0)))))
 (.seq (.reg [⟨.bin .add (.s 20) (.c (.int .i64 1)),none⟩,⟨.mv (.r 0),none⟩] [] [] [(20,1,none)])
 (.drop [8,9,22,23,24] [(true,1)]))))
def ir_gmo_Judgel2 : C :=
 .seq (.reg [⟨.bin .lss (.s 31) (.s 30),none⟩] [] [] [(32,0,none)])
 (.seq (.cond (.s 32) (.skip)
  (.exit 7))
 (.seq (.block 8 (.seq (.seq (.reg [⟨.mv (.s 31),none⟩,⟨.mv (.r 0),none⟩] [] [] [(13,1,none)])
  (.drop [32] []))
  (.seq (.seq (.reg [⟨.mv (.s 4),none⟩,⟨.mv (.s 11),none⟩,⟨.mv (.s 13),none⟩,⟨.mkfn 23 [] [(.s 6)],none⟩,⟨.call .heap n_gmo_view_atomic [(.r 0),(.r 1),(.r 2),(.r 3)],none⟩,⟨.un .not (.r 4),none⟩] [] [] [(33,5,none)])
  (.drop [13] []))
  (.cond (.s 33) (.seq (.seq (.reg [⟨.mv (.c (.int .i64 13)),none⟩] [] [] [(3,0,none)])
   (.drop [4,6,11,26,27,28,30,31,33] []))
   (.ret))
   (.skip)))))
 (.seq (.reg [⟨.bin .add (.s 31) (.c (.int .i64 1)),none⟩,⟨.mv (.r 0),none⟩] [] [] [(31,1,none)])
 (.drop [33] []))))
def ir_gmo_Judgel3 : C :=
 .seq (.reg [⟨.bin .lss (.s 28) (.s 27),none⟩] [] [] [(29,0,none)])
 (.seq (.cond (.s 29) (.skip)
  (.exit 5))
 (.seq (.block 6 (.seq (.seq (.reg [⟨.mv (.s 28),none⟩,⟨.iaS 33 (.s 26) (.s 28),none⟩,⟨.load 0 true 33 (.r 1),none⟩,⟨.lalloc 2 zz0,none⟩,⟨.mv (.r 0),none⟩,⟨.store 0 33 (.r 3) (.r 2),none⟩] [(true,2)] [] [(11,4,none),(12,3,some 5)])
  (.drop [29] []))
  (.seq (.seq (.reg [⟨.off 32 (.s 12),none⟩,⟨.load 0 false 1 (.r 0),none⟩,⟨.mv (.c (.int .i64 0)),none⟩] [] [] [(30,1,none),(31,2,none)])
  (.drop [12] [(true,2)]))
  (.block 7 (.loop ir_gmo_Judgel2)))))
 (.seq (.reg [⟨.bin .add (.s 28) (.c (.int .i64 1)),none⟩,⟨.mv (.r 0),none⟩] [] [] [(28,1,none)])
 (.drop [11,30,31,32] []))))
def ir_gmo_Judge : Vm.Fn := ⟨[0,1,2,4,5,6,7,8,9,10,11,12,13,14,21,29,32,38,46,47,48,49,54,55,56,67,73,74,75,76,81,82,83,90],3,0,[.slot 3],.seq (.seq (.reg [⟨.lbox 0 5 (.s 0),none⟩,⟨.mv (.c (.int .i64 0)),none⟩] [(true,0)] [] [(2,0,some 1),(3,1,none)])
 (.drop [0,3] []))
 (.seq (.reg [⟨.load 0 true 5 (.s 2),none⟩,⟨.call .heap n_gmo_look [(.r 0)],none⟩,⟨.mv (.r 1),none⟩,⟨.ext (.r 2) 0,none⟩,⟨.ext (.r 2) 1,none⟩,⟨.mv (.r 3),none⟩,⟨.mv (.r 4),none⟩] [] [] [(4,5,none),(5,6,none)])
 (.seq (.seq (.reg [⟨.mv (.s 5),none⟩,⟨.bin .neq (.r 0) (.c (.int .i64 0)),none⟩] [] [] [(14,1,none)])
 (.cond (.s 14) (.seq (.seq (.reg [⟨.mv (.s 5),none⟩,⟨.mv (.r 0),none⟩] [] [] [(3,1,none)])
  (.drop [1,2,4,5,14] [(true,0)]))
  (.ret))
  (.skip)))
 (.seq (.seq (.reg [⟨.mv (.s 4),none⟩,⟨.mv (.s 1),none⟩,⟨.call .heap n_gmo_view_places [(.r 0),(.r 1)],none⟩,⟨.mv (.r 2),none⟩,⟨.ext (.r 3) 0,none⟩,⟨.ext (.r 3) 1,none⟩,⟨.halloc [.nils],none⟩,⟨.store 0 1 (.r 6) (.r 4),none⟩,⟨.mv (.r 5),none⟩] [] [] [(6,6,none),(7,8,none)])
 (.drop [5,14] []))
 (.seq (.block 0 (.seq (.seq (.reg [⟨.mv (.s 7),none⟩,⟨.un .not (.r 0),none⟩,⟨.mv (.r 1),none⟩] [] [] [(15,2,none)])
  (.drop [7] []))
  (.cond (.s 15) (.seq (.seq (.reg [⟨.mv (.c (.int .i64 9)),none⟩] [] [] [(3,0,none)])
   (.drop [1,2,4,6,15] [(true,0)]))
   (.ret))
   (.seq (.seq (.reg [⟨.load 0 true 5 (.s 2),none⟩,⟨.call .val n_ppo_All [(.r 0)],none⟩,⟨.mv (.s 1),none⟩,⟨.call .val n_rel_Rel_Fits [(.r 1),(.r 2)],none⟩,⟨.un .not (.r 3),none⟩,⟨.mv (.r 4),none⟩] [] [] [(16,5,none)])
   (.drop [1,2,15] [(true,0)]))
   (.cond (.s 16) (.seq (.seq (.reg [⟨.mv (.c (.int .i64 10)),none⟩] [] [] [(3,0,none)])
    (.drop [4,6,16] []))
    (.ret))
    (.seq (.seq (.reg [⟨.mv (.s 4),none⟩,⟨.load 0 false 1 (.s 6),none⟩,⟨.call .heap n_gmo_view_ordered [(.r 0),(.r 1)],none⟩,⟨.un .not (.r 2),none⟩,⟨.mv (.r 3),none⟩] [] [] [(17,4,none)])
    (.drop [16] []))
    (.cond (.s 17) (.seq (.seq (.reg [⟨.mv (.c (.int .i64 11)),none⟩] [] [] [(3,0,none)])
     (.drop [4,6,17] []))
     (.ret))
     (.skip))))))))
 (.seq (.seq (.seq (.reg [⟨.mv (.s 4),none⟩,⟨.nilck (.r 0),none⟩,⟨.off 5 (.r 1),none⟩,⟨.load 0 false 1 (.r 2),none⟩,⟨.len 1 (.r 3),none⟩,⟨.mv (.c (.int .i64 0)),none⟩] [] [] [(18,3,none),(19,4,none),(20,5,none)])
 (.drop [17] []))
 (.block 1 (.loop ir_gmo_Judgel1)))
 (.seq (.seq (.seq (.reg [⟨.mv (.s 4),none⟩,⟨.nilck (.r 0),none⟩,⟨.off 5 (.r 1),none⟩,⟨.load 0 false 1 (.r 2),none⟩,⟨.len 1 (.r 3),none⟩,⟨.mv (.c (.int .i64 0)),none⟩] [] [] [(26,3,none),(27,4,none),(28,5,none)])
 (.drop [18,19,20,21] []))
 (.block 5 (.loop ir_gmo_Judgel3)))
 (.seq (.seq (.reg [⟨.mv (.c (.int .i64 0)),none⟩] [] [] [(3,0,none)])
 (.drop [4,6,26,27,28,29] []))
 (.ret))))))))⟩
def h11 : Vm.Hint := ⟨[0,1,2,3,4,5,6,7,8,15,20,29],[1],[],[[1,0,0],[0,1,0,0,0,0,0],[0,0],[0,0,0],[0,1,0],[0,0],[0,0,0],[0,1,0,0,0,0,0,0],[0,0],[0,0],[0,0,0]],[([0,2,3],[]),([1],[(true,0)]),([],[]),([4,5,9],[]),([5,9],[]),([],[]),([4,6,10],[]),([4,6,10],[]),([8],[]),([7,11],[]),([7,11],[])],[]⟩
def ir_gmo_Search : Vm.Fn := ⟨[0,1,2,3,4,5,6,7,8,15,20,29],1,0,[.slot 2,.slot 3],.seq (.seq (.reg [⟨.lbox 0 5 (.s 0),none⟩,⟨.mv (.c (.nils)),none⟩,⟨.mv (.c (.int .i64 0)),none⟩] [(true,0)] [] [(1,0,some 1),(2,1,none),(3,2,none)])
 (.drop [0,2,3] []))
 (.seq (.seq (.reg [⟨.load 0 true 5 (.s 1),none⟩,⟨.call .heap n_gmo_look [(.r 0)],none⟩,⟨.mv (.r 1),none⟩,⟨.ext (.r 2) 0,none⟩,⟨.ext (.r 2) 1,none⟩,⟨.mv (.r 3),none⟩,⟨.mv (.r 4),none⟩] [] [] [(4,5,none),(5,6,none)])
 (.drop [1] [(true,0)]))
 (.seq (.seq (.reg [⟨.mv (.s 5),none⟩,⟨.bin .neq (.r 0) (.c (.int .i64 0)),none⟩] [] [] [(9,1,none)])
 (.cond (.s 9) (.seq (.seq (.reg [⟨.mv (.s 5),none⟩,⟨.mv (.c (.nils)),none⟩,⟨.mv (.r 0),none⟩] [] [] [(2,1,none),(3,2,none)])
  (.drop [4,5,9] []))
  (.ret))
  (.skip)))
 (.seq (.seq (.seq (.reg [⟨.mv (.s 4),none⟩,⟨.call .heap n_gmo_view_may [(.r 0)],none⟩,⟨.mv (.r 1),none⟩] [] [] [(6,2,none)])
 (.drop [5,9] []))
 (.seq (.reg [⟨.mv (.s 6),none⟩,⟨.bin .neq (.r 0) (.c (.int .i64 0)),none⟩] [] [] [(10,1,none)])
 (.cond (.s 10) (.seq (.seq (.reg [⟨.mv (.s 6),none⟩,⟨.mv (.c (.nils)),none⟩,⟨.mv (.r 0),none⟩] [] [] [(2,1,none),(3,2,none)])
  (.drop [4,6,10] []))
  (.ret))
  (.skip))))
 (.seq (.seq (.reg [⟨.mv (.s 4),none⟩,⟨.call .heap n_gmo_view_must [(.r 0)],none⟩,⟨.call .val n_rel_Rel_Order [(.r 1)],none⟩,⟨.mv (.r 2),none⟩,⟨.ext (.r 3) 0,none⟩,⟨.ext (.r 3) 1,none⟩,⟨.mv (.r 4),none⟩,⟨.mv (.r 5),none⟩] [] [] [(7,6,none),(8,7,none)])
 (.drop [4,6,10] []))
 (.seq (.seq (.seq (.reg [⟨.mv (.s 8),none⟩,⟨.un .not (.r 0),none⟩] [] [] [(11,1,none)])
 (.drop [8] []))
 (.cond (.s 11) (.seq (.seq (.reg [⟨.mv (.c (.nils)),none⟩,⟨.mv (.c (.int .i64 14)),none⟩] [] [] [(2,0,none),(3,1,none)])
  (.drop [7,11] []))
  (.ret))
  (.skip)))
 (.seq (.seq (.reg [⟨.mv (.s 7),none⟩,⟨.mv (.r 0),none⟩,⟨.mv (.c (.int .i64 0)),none⟩] [] [] [(2,1,none),(3,2,none)])
 (.drop [7,11] []))
 (.ret)))))))⟩
def h12 : Vm.Hint := ⟨[0,1,2,3,4,11],[1],[],[[1,0],[0,1,0,0,0,0,0],[0,0],[0],[0,1,0]],[([0,2],[]),([1],[(true,0)]),([4],[]),([3,5],[]),([3,5],[])],[]⟩
def ir_gmo_Must : Vm.Fn := ⟨[0,1,2,3,4,11],1,0,[.slot 2],.seq (.seq (.reg [⟨.lbox 0 5 (.s 0),none⟩,⟨.mv (.c (.nilp)),none⟩] [(true,0)] [] [(1,0,some 1),(2,1,none)])
 (.drop [0,2] []))
 (.seq (.seq (.reg [⟨.load 0 true 5 (.s 1),none⟩,⟨.call .heap n_gmo_look [(.r 0)],none⟩,⟨.mv (.r 1),none⟩,⟨.ext (.r 2) 0,none⟩,⟨.ext (.r 2) 1,none⟩,⟨.mv (.r 3),none⟩,⟨.mv (.r 4),none⟩] [] [] [(3,5,none),(4,6,none)])
 (.drop [1] [(true,0)]))
 (.seq (.seq (.seq (.reg [⟨.mv (.s 4),none⟩,⟨.bin .neq (.r 0) (.c (.int .i64 0)),none⟩] [] [] [(5,1,none)])
 (.drop [4] []))
 (.cond (.s 5) (.seq (.seq (.reg [⟨.mv (.c (.nilp)),none⟩] [] [] [(2,0,none)])
  (.drop [3,5] []))
  (.ret))
  (.skip)))
 (.seq (.seq (.reg [⟨.mv (.s 3),none⟩,⟨.call .heap n_gmo_view_must [(.r 0)],none⟩,⟨.mv (.r 1),none⟩] [] [] [(2,2,none)])
 (.drop [3,5] []))
 (.ret))))⟩
def h13 : Vm.Hint := ⟨[0,1,2,3,4,5,6,7,14,15,16,17,28,29,30,31,38],[1,3,5,7],[],[[1,0],[0,0,0,0,0,2,0],[0,0,0,0],[0],[0,0,0,3,0,0],[0,0,0,0,0,0,0],[0,0],[0,0,0],[0],[0,0,0,4,0,0],[0,0,0,1],[0,0,0],[0,0],[0]],[([0,2],[]),([1],[(true,0)]),([],[]),([],[]),([11],[]),([4,5],[(true,2)]),([],[]),([8,9,10,11],[]),([],[]),([15],[]),([7],[(true,3)]),([3,6,12,13,14,16],[(true,1)]),([6,16],[]),([3,12,13,14,15],[(true,1)])],[]⟩
def ir_cand_Checkl0 : C :=
 .seq (.reg [⟨.bin .lss (.s 10) (.s 9),none⟩] [] [] [(11,0,none)])
 (.seq (.cond (.s 11) (.skip)
  (.exit 0))
 (.seq (.block 1 (.seq (.seq (.reg [⟨.mv (.s 10),none⟩,⟨.iaS 33 (.s 8) (.s 10),none⟩,⟨.load 0 true 33 (.r 1),none⟩,⟨.lalloc 2 zz0,none⟩,⟨.mv (.r 0),none⟩,⟨.store 0 33 (.r 3) (.r 2),none⟩] [(true,2)] [] [(4,4,none),(5,3,some 5)])
  (.drop [11] []))
  (.seq (.reg [⟨.off 6 (.s 3),none⟩,⟨.load 0 false 1 (.r 0),none⟩,⟨.off 2 (.s 5),none⟩,⟨.off 16 (.r 2),none⟩,⟨.load 0 false 1 (.r 3),none⟩,⟨.mv (.s 4),none⟩,⟨.mput (.r 1) (.r 4) (.r 5),none⟩] [] [] [])
  (.drop [4,5] [(true,2)]))))
 (.reg [⟨.bin .add (.s 10) (.c (.int .i64 1)),none⟩,⟨.mv (.r 0),none⟩] [] [] [(10,1,none)])))
def ir_cand_Checkl1 : C :=
 .seq (.reg [⟨.bin .lss (.s 14) (.s 13),none⟩] [] [] [(15,0,none)])
 (.seq (.cond (.s 15) (.skip)
  (.exit 2))
 (.seq (.block 3 (.seq (.seq (.reg [⟨.mv (.s 14),none⟩,⟨.iaS 1 (.s 12) (.s 14),none⟩,⟨.load 0 true 1 (.r 1),none⟩,⟨.lalloc 3 [.nilf],none⟩,⟨.mv (.r 0),none⟩,⟨.store 0 1 (.r 3) (.r 2),none⟩] [(true,3)] [] [(6,4,none),(7,3,some 7)])
  (.drop [15] []))
  (.seq (.seq (.reg [⟨.off 0 (.s 7),none⟩,⟨.load 0 false 1 (.r 0),none⟩,⟨.load 0 true 7 (.s 3),none⟩,⟨.callv .heap (.r 1) [(.r 2)],none⟩] [] [] [(16,3,none)])
  (.drop [7] [(true,3)]))
  (.cond (.s 16) (.seq (.seq (.reg [⟨.mv (.s 6),none⟩,⟨.bin .add (.r 0) (.c (.int .i64 1)),none⟩,⟨.mv (.r 1),none⟩] [] [] [(2,2,none)])
   (.drop [3,6,12,13,14,16] [(true,1)]))
   (.ret))
   (.skip)))))
 (.seq (.reg [⟨.bin .add (.s 14) (.c (.int .i64 1)),none⟩,⟨.mv (.r 0),none⟩] [] [] [(14,1,none)])
 (.drop [6,16] []))))
def ir_cand_Check : Vm.Fn := ⟨[0,1,2,3,4,5,6,7,14,15,16,17,28,29,30,31,38],4,0,[.slot 2],.seq (.seq (.reg [⟨.lbox 0 5 (.s 0),none⟩,⟨.mv (.c (.int .i64 0)),none⟩] [(true,0)] [] [(1,0,some 1),(2,1,none)])
 (.drop [0,2] []))
 (.seq (.seq (.reg [⟨.load 0 true 5 (.s 1),none⟩,⟨.load 0 true 5 (.s 1),none⟩,⟨.call .val n_cand_Events [(.r 1)],none⟩,⟨.mkmap,none⟩,⟨.build [.nils,.nils,.nils,.nils,.nils,.nils,.nilm] [(0,5,(.r 0)),(5,1,(.r 2)),(6,1,(.r 3))],none⟩,⟨.lalloc 1 [.nils,.nils,.nils,.nils,.nils,.nils,.nilm],none⟩,⟨.store 0 7 (.r 5) (.r 4),none⟩] [(true,1)] [(0,1),(0,2),(0,3),(0,5),(1,3),(1,5),(2,3),(2,5),(3,5)] [(3,5,some 3)])
 (.drop [1] [(true,0)]))
 (.seq (.seq (.reg [⟨.off 5 (.s 3),none⟩,⟨.load 0 false 1 (.r 0),none⟩,⟨.len 1 (.r 1),none⟩,⟨.mv (.c (.int .i64 0)),none⟩] [] [] [(8,1,none),(9,2,none),(10,3,none)])
 (.block 0 (.loop ir_cand_Checkl0)))
 (.seq (.seq (.seq (.reg [⟨.call .val n_cand_faults [],none⟩,⟨.len 1 (.r 0),none⟩,⟨.mv (.c (.int .i64 0)),none⟩] [] [] [(12,0,none),(13,1,none),(14,2,none)])
 (.drop [8,9,10,11] []))
 (.block 2 (.loop ir_cand_Checkl1)))
 (.seq (.seq (.reg [⟨.mv (.c (.int .i64 0)),none⟩] [] [] [(2,0,none)])
 (.drop [3,12,13,14,15] [(true,1)]))
 (.ret)))))⟩
def h14 : Vm.Hint := ⟨[0,1,4,5,6,7,9,18,22,23,24,25,39,47,48,49,50,63],[9],[],[[0],[0,0,0,0,0,0,0,0,0],[0],[0,0,0,0],[0,0,0],[0],[0,0,0,0,0],[0,0,0,0,0,0,0,0,0,0,0],[0],[0,0,0,0,0,0],[0,0],[0,0,0,0],[0],[0,0,1,0],[0,0,0,0,0,0,0,0,0,0,0],[0],[0,0],[0]],[([2],[]),([],[]),([0,1,7],[]),([7],[]),([1],[]),([],[]),([11],[]),([],[]),([0,3,4,5,8,9,10,12],[]),([4,5,12],[]),([],[]),([0,8,9,10,11],[]),([],[]),([16],[]),([6],[(true,0)]),([3,13,14,15,17],[]),([17],[]),([3,13,14,15,16],[])],[]⟩
def ir_rel_Rel_Fitsl0 : C :=
 .seq (.reg [⟨.bin .lss (.s 10) (.s 9),none⟩] [] [] [(11,0,none)])
 (.seq (.cond (.s 11) (.skip)
  (.exit 0))
 (.seq (.block 1 (.seq (.seq (.reg [⟨.mv (.s 10),none⟩,⟨.iaS 1 (.s 8) (.s 10),none⟩,⟨.load 0 false 1 (.r 1),none⟩,⟨.mv (.r 0),none⟩,⟨.mv (.r 2),none⟩] [] [] [(4,3,none),(5,4,none)])
  (.drop [11] []))
  (.seq (.seq (.reg [⟨.mv (.s 0),none⟩,⟨.mv (.s 5),none⟩,⟨.call .val n_rel_Rel_is [(.r 0),(.r 1)],none⟩,⟨.un .not (.r 2),none⟩,⟨.mv (.r 3),none⟩,⟨.mv (.s 3),some (4,false)⟩,⟨.mv (.s 5),some (4,false)⟩,⟨.iaS 1 (.r 5) (.r 6),some (4,false)⟩,⟨.load 0 false 1 (.r 7),some (4,false)⟩,⟨.bin .gtr (.r 8) (.c (.int .i64 0)),some (4,false)⟩,⟨.pick (.r 4) (.c (.bool true)) (.r 9),none⟩] [] [] [(12,10,none)])
  (.cond (.s 12) (.seq (.seq (.reg [⟨.mv (.c (.bool false)),none⟩] [] [] [(2,0,none)])
   (.drop [0,3,4,5,8,9,10,12] []))
   (.ret))
   (.skip)))
  (.seq (.reg [⟨.mv (.s 3),none⟩,⟨.mv (.s 5),none⟩,⟨.mv (.s 4),none⟩,⟨.bin .add (.r 2) (.c (.int .i64 1)),none⟩,⟨.iaS 1 (.r 0) (.r 1),none⟩,⟨.store 0 1 (.r 4) (.r 3),none⟩] [] [] [])
  (.drop [4,5,12] [])))))
 (.reg [⟨.bin .add (.s 10) (.c (.int .i64 1)),none⟩,⟨.mv (.r 0),none⟩] [] [] [(10,1,none)])))
def ir_rel_Rel_Fitsl1 : C :=
 .seq (.reg [⟨.bin .lss (.s 15) (.s 14),none⟩] [] [] [(16,0,none)])
 (.seq (.cond (.s 16) (.skip)
  (.exit 2))
 (.seq (.block 3 (.seq (.seq (.reg [⟨.iaS 2 (.s 13) (.s 15),none⟩,⟨.load 0 true 2 (.r 0),none⟩,⟨.lalloc 0 [.int .i64 0,.int .i64 0],none⟩,⟨.store 0 2 (.r 2) (.r 1),none⟩] [(true,0)] [] [(6,2,some 1)])
  (.drop [16] []))
  (.seq (.seq (.reg [⟨.mv (.s 3),none⟩,⟨.iaA 2 1 (.s 6) (.c (.int .i64 0)),none⟩,⟨.load 0 false 1 (.r 1),none⟩,⟨.iaS 1 (.r 0) (.r 2),none⟩,⟨.load 0 false 1 (.r 3),none⟩,⟨.mv (.s 3),none⟩,⟨.iaA 2 1 (.s 6) (.c (.int .i64 1)),none⟩,⟨.load 0 false 1 (.r 6),none⟩,⟨.iaS 1 (.r 5) (.r 7),none⟩,⟨.load 0 false 1 (.r 8),none⟩,⟨.bin .geq (.r 4) (.r 9),none⟩] [] [(2,7),(2,8),(2,9),(3,7),(3,8),(3,9),(4,7),(4,8),(4,9)] [(17,10,none)])
  (.drop [6] [(true,0)]))
  (.cond (.s 17) (.seq (.seq (.reg [⟨.mv (.c (.bool false)),none⟩] [] [] [(2,0,none)])
   (.drop [3,13,14,15,17] []))
   (.ret))
   (.skip)))))
 (.seq (.reg [⟨.bin .add (.s 15) (.c (.int .i64 1)),none⟩,⟨.mv (.r 0),none⟩] [] [] [(15,1,none)])
 (.drop [17] []))))
def ir_rel_Rel_Fits : Vm.Fn := ⟨[0,1,4,5,6,7,9,18,22,23,24,25,39,47,48,49,50,63],1,0,[.slot 2],.seq (.seq (.reg [⟨.mv (.c (.bool false)),none⟩] [] [] [(2,0,none)])
 (.drop [2] []))
 (.seq (.seq (.reg [⟨.mv (.s 0),none⟩,⟨.eqn .ptr false (.r 0) (.c (.nilp)),none⟩,⟨.mv (.r 1),none⟩,⟨.mv (.s 1),some (2,false)⟩,⟨.len 1 (.r 3),some (2,false)⟩,⟨.mv (.s 0),some (2,false)⟩,⟨.call .val n_rel_Rel_Len [(.r 5)],some (2,false)⟩,⟨.bin .neq (.r 4) (.r 6),some (2,false)⟩,⟨.pick (.r 2) (.c (.bool true)) (.r 7),none⟩] [] [] [(7,8,none)])
 (.cond (.s 7) (.seq (.seq (.reg [⟨.mv (.c (.bool false)),none⟩] [] [] [(2,0,none)])
  (.drop [0,1,7] []))
  (.ret))
  (.skip)))
 (.seq (.seq (.reg [⟨.mv (.s 1),none⟩,⟨.len 1 (.r 0),none⟩,⟨.mksl [.int .i64 0] 8 (.r 1) (.r 1),none⟩,⟨.mv (.r 2),none⟩] [] [] [(3,3,none)])
 (.drop [7] []))
 (.seq (.seq (.seq (.reg [⟨.mv (.s 1),none⟩,⟨.len 1 (.r 0),none⟩,⟨.mv (.c (.int .i64 0)),none⟩] [] [] [(8,0,none),(9,1,none),(10,2,none)])
 (.drop [1] []))
 (.block 0 (.loop ir_rel_Rel_Fitsl0)))
 (.seq (.seq (.seq (.reg [⟨.mv (.s 0),none⟩,⟨.call .val n_rel_Rel_Pairs [(.r 0)],none⟩,⟨.len 1 (.r 1),none⟩,⟨.mv (.c (.int .i64 0)),none⟩] [] [] [(13,1,none),(14,2,none),(15,3,none)])
 (.drop [0,8,9,10,11] []))
 (.block 2 (.loop ir_rel_Rel_Fitsl1)))
 (.seq (.seq (.reg [⟨.mv (.c (.bool true)),none⟩] [] [] [(2,0,none)])
 (.drop [3,13,14,15,16] []))
 (.ret))))))⟩
def h15 : Vm.Hint := ⟨[0,1,2,6],[6],[],[[1],[0,0,0,0,0,0,0,0]],[([],[]),([0,1,2],[])],[]⟩
def ir_undertowlaw23_one : Vm.Fn := ⟨[0,1,2,6],1,0,[.cell 3 true 27],.seq (.reg [⟨.lalloc 0 zz1,none⟩] [(true,0)] [] [(3,0,some 1)])
 (.seq (.seq (.reg [⟨.mv (.s 0),none⟩,⟨.build [.int .i64 0,.int .i64 0,.int .i64 0,.int .i64 0,.int .i64 0,.bool false,.bool false,.int .i64 0,.int .i64 0] [(0,1,(.r 0))],none⟩,⟨.mv (.s 2),none⟩,⟨.build [.int .u64 0,.int .i64 0,.int .i64 0,.int .i64 0,.int .i64 0,.int .i64 0,.bool false,.bool false,.int .i64 0,.int .i64 0,.int .i64 0,.int .u64 0,.int .u64 0,.int .u64 0,.int .u64 0,.bool false] [(1,9,(.r 1)),(12,1,(.r 2))],none⟩,⟨.mv (.s 1),none⟩,⟨.build [.int .i64 0,.int .i64 0,.int .i64 0,.int .i64 0,.int .i64 0,.int .i64 0,.int .i64 0,.int .i64 0] [(0,1,(.c (.int .i64 (-1)))),(1,1,(.c (.int .i64 (-1)))),(2,1,(.c (.int .i64 (-1)))),(3,1,(.c (.int .i64 (-1)))),(4,1,(.c (.int .i64 (-1)))),(5,1,(.c (.int .i64 (-1)))),(6,1,(.c (.int .i64 (-1)))),(7,1,(.c (.int .i64 (-1))))],none⟩,⟨.build zz1 [(0,16,(.r 3)),(16,1,(.r 4)),(26,1,(.c (.int .i64 (-1)))),(18,8,(.r 5))],none⟩,⟨.store 0 27 (.s 3) (.r 6),none⟩] [] [] [])
 (.drop [0,1,2] []))
 (.ret))⟩
def h16 : Vm.Hint := ⟨[0,2,4],[],[],[[0],[0,0],[0],[0,0,0,0,0,0]],[([1],[]),([],[]),([0,2],[]),([0,2],[])],[]⟩
def ir_rel_Rel_Len : Vm.Fn := ⟨[0,2,4],0,0,[.slot 1],.seq (.seq (.reg [⟨.mv (.c (.int .i64 0)),none⟩] [] [] [(1,0,none)])
 (.drop [1] []))
 (.seq (.seq (.reg [⟨.mv (.s 0),none⟩,⟨.eqn .ptr false (.r 0) (.c (.nilp)),none⟩] [] [] [(2,1,none)])
 (.cond (.s 2) (.seq (.seq (.reg [⟨.mv (.c (.int .i64 0)),none⟩] [] [] [(1,0,none)])
  (.drop [0,2] []))
  (.ret))
  (.skip)))
 (.seq (.seq (.reg [⟨.mv (.s 0),none⟩,⟨.nilck (.r 0),none⟩,⟨.off 0 (.r 1),none⟩,⟨.load 0 false 1 (.r 2),none⟩,⟨.len 1 (.r 3),none⟩,⟨.mv (.r 4),none⟩] [] [] [(1,5,none)])
 (.drop [0,2] []))
 (.ret)))⟩
def h17 : Vm.Hint := ⟨[0,1,2,3,4,5,6,7,9,10,11,12,16,27,28,29,30,44,45,46,47,51,52,53,54],[1,7],[],[[1,0,0],[0,0,0],[0,0],[0,0,0],[0,0,0,0,0,0,0],[0,0,0,0,0,0],[0],[0,0,0,2,0,0],[0,0,0,0,0,0,0,0,0],[0,0],[0,0,0,0],[0],[0,0,0],[0,0],[0,0,0],[0],[0,0,0,0,0],[0,0,0,0,0,0,0,0,0,0],[0,0],[0,0,0,0,0,0,1,0,0,0,0],[0,0],[0,0,0]],[([0,2,3],[]),([],[]),([],[]),([1,4,12],[(true,0)]),([4,12],[]),([],[]),([],[]),([16],[]),([6,7],[(true,1)]),([],[]),([1,13,14,15,16],[(true,0)]),([],[]),([20],[]),([],[]),([8],[]),([],[]),([24],[]),([10,11],[]),([],[]),([9,21,22,23,24],[]),([],[]),([5,17,18,19,20],[])],[]⟩
def ir_gmo_lookl0 : C :=
 .seq (.reg [⟨.bin .lss (.s 15) (.s 14),none⟩] [] [] [(16,0,none)])
 (.seq (.cond (.s 16) (.skip)
  (.exit 0))
 (.seq (.block 1 (.seq (.seq (.reg [⟨.mv (.s 15),none⟩,⟨.iaS 33 (.s 13) (.s 15),none⟩,⟨.load 0 true 33 (.r 1),none⟩,⟨.lalloc 1 zz0,none⟩,⟨.mv (.r 0),none⟩,⟨.store 0 33 (.r 3) (.r 2),none⟩] [(true,1)] [] [(6,4,none),(7,3,some 3)])
  (.drop [16] []))
  (.seq (.reg [⟨.mv (.s 5),none⟩,⟨.nilck (.r 0),none⟩,⟨.off 6 (.r 1),none⟩,⟨.load 0 false 1 (.r 2),none⟩,⟨.off 2 (.s 7),none⟩,⟨.off 16 (.r 4),none⟩,⟨.load 0 false 1 (.r 5),none⟩,⟨.mv (.s 6),none⟩,⟨.mput (.r 3) (.r 6) (.r 7),none⟩] [] [(3,6)] [])
  (.drop [6,7] [(true,1)]))))
 (.reg [⟨.bin .add (.s 15) (.c (.int .i64 1)),none⟩,⟨.mv (.r 0),none⟩] [] [] [(15,1,none)])))
def ir_gmo_lookl1 : C :=
 .seq (.reg [⟨.bin .lss (.s 23) (.s 22),none⟩] [] [] [(24,0,none)])
 (.seq (.cond (.s 24) (.skip)
  (.exit 4))
 (.seq (.block 5 (.seq (.seq (.reg [⟨.mv (.s 23),none⟩,⟨.iaS 1 (.s 21) (.s 23),none⟩,⟨.load 0 false 1 (.r 1),none⟩,⟨.mv (.r 0),none⟩,⟨.mv (.r 2),none⟩] [] [] [(10,3,none),(11,4,none)])
  (.drop [24] []))
  (.seq (.reg [⟨.mv (.s 9),none⟩,⟨.mv (.s 5),none⟩,⟨.nilck (.r 1),none⟩,⟨.off 6 (.r 2),none⟩,⟨.load 0 false 1 (.r 3),none⟩,⟨.mv (.s 11),none⟩,⟨.look false false [.int .i64 0] (.r 4) (.r 5),none⟩,⟨.mv (.s 10),none⟩,⟨.bin .add (.r 7) (.c (.int .i64 1)),none⟩,⟨.mput (.r 0) (.r 6) (.r 8),none⟩] [] [] [])
  (.drop [10,11] []))))
 (.reg [⟨.bin .add (.s 23) (.c (.int .i64 1)),none⟩,⟨.mv (.r 0),none⟩] [] [] [(23,1,none)])))
def ir_gmo_lookl2 : C :=
 .seq (.reg [⟨.bin .lss (.s 19) (.s 18),none⟩] [] [] [(20,0,none)])
 (.seq (.cond (.s 20) (.skip)
  (.exit 2))
 (.seq (.block 3 (.seq (.seq (.reg [⟨.iaS 1 (.s 17) (.s 19),none⟩,⟨.load 0 false 1 (.r 0),none⟩,⟨.mv (.r 1),none⟩] [] [] [(8,2,none)])
  (.drop [20] []))
  (.seq (.reg [⟨.mkmap,none⟩,⟨.mv (.r 0),none⟩] [] [] [(9,1,none)])
  (.seq (.seq (.seq (.reg [⟨.mv (.s 8),none⟩,⟨.len 1 (.r 0),none⟩,⟨.mv (.c (.int .i64 0)),none⟩] [] [] [(21,0,none),(22,1,none),(23,2,none)])
  (.drop [8] []))
  (.block 4 (.loop ir_gmo_lookl1)))
  (.seq (.reg [⟨.mv (.s 5),none⟩,⟨.mv (.s 5),none⟩,⟨.nilck (.r 1),none⟩,⟨.off 7 (.r 2),none⟩,⟨.load 0 false 1 (.r 3),none⟩,⟨.mv (.s 9),none⟩,⟨.lit 1 1 [[.nilm]] [(0,(.r 5))],none⟩,⟨.app 0 1 8 (.r 4) (.r 6),none⟩,⟨.nilck (.r 0),none⟩,⟨.off 7 (.r 8),none⟩,⟨.store 0 1 (.r 9) (.r 7),none⟩] [] [] [])
  (.drop [9,21,22,23,24] []))))))
 (.reg [⟨.bin .add (.s 19) (.c (.int .i64 1)),none⟩,⟨.mv (.r 0),none⟩] [] [] [(19,1,none)])))
def ir_gmo_look : Vm.Fn := ⟨[0,1,2,3,4,5,6,7,9,10,11,12,16,27,28,29,30,44,45,46,47,51,52,53,54],2,0,[.slot 2,.slot 3],.seq (.seq (.reg [⟨.lbox 0 5 (.s 0),none⟩,⟨.mv (.c (.nilp)),none⟩,⟨.mv (.c (.int .i64 0)),none⟩] [(true,0)] [] [(1,0,some 1),(2,1,none),(3,2,none)])
 (.drop [0,2,3] []))
 (.seq (.seq (.reg [⟨.load 0 true 5 (.s 1),none⟩,⟨.call .val n_cand_Check [(.r 0)],none⟩,⟨.mv (.r 1),none⟩] [] [] [(4,2,none)])
 (.seq (.reg [⟨.mv (.s 4),none⟩,⟨.bin .neq (.r 0) (.c (.int .i64 0)),none⟩] [] [] [(12,1,none)])
 (.cond (.s 12) (.seq (.seq (.reg [⟨.mv (.s 4),none⟩,⟨.mv (.c (.nilp)),none⟩,⟨.mv (.r 0),none⟩] [] [] [(2,1,none),(3,2,none)])
  (.drop [1,4,12] [(true,0)]))
  (.ret))
  (.skip))))
 (.seq (.seq (.reg [⟨.load 0 true 5 (.s 1),none⟩,⟨.load 0 true 5 (.s 1),none⟩,⟨.call .val n_cand_Events [(.r 1)],none⟩,⟨.mkmap,none⟩,⟨.build [.nils,.nils,.nils,.nils,.nils,.nils,.nilm,.nils] [(0,5,(.r 0)),(5,1,(.r 2)),(6,1,(.r 3))],none⟩,⟨.hbox 8 (.r 4),none⟩,⟨.mv (.r 5),none⟩] [] [(0,1),(0,2),(0,3),(1,3),(2,3)] [(5,6,none)])
 (.drop [4,12] []))
 (.seq (.seq (.reg [⟨.mv (.s 5),none⟩,⟨.nilck (.r 0),none⟩,⟨.off 5 (.r 1),none⟩,⟨.load 0 false 1 (.r 2),none⟩,⟨.len 1 (.r 3),none⟩,⟨.mv (.c (.int .i64 0)),none⟩] [] [] [(13,3,none),(14,4,none),(15,5,none)])
 (.block 0 (.loop ir_gmo_lookl0)))
 (.seq (.seq (.seq (.reg [⟨.off 4 (.s 1),none⟩,⟨.load 0 false 1 (.r 0),none⟩,⟨.len 1 (.r 1),none⟩,⟨.mv (.c (.int .i64 0)),none⟩] [] [] [(17,1,none),(18,2,none),(19,3,none)])
 (.drop [1,13,14,15,16] [(true,0)]))
 (.block 2 (.loop ir_gmo_lookl2)))
 (.seq (.seq (.reg [⟨.mv (.s 5),none⟩,⟨.mv (.r 0),none⟩,⟨.mv (.c (.int .i64 0)),none⟩] [] [] [(2,1,none),(3,2,none)])
 (.drop [5,17,18,19,20] []))
 (.ret))))))⟩
def h18 : Vm.Hint := ⟨[0,1,4,5,6,7,8,15,16,17,18,36],[],[],[[0,0],[0,0,0,0,0,0,0],[0,0,0],[0],[0,0,0,0,0],[0,0,0,0,0,0,0,0,0,0,0,0,0,0,0],[0,0],[0,0,0,0,0,0],[0,0],[0,0,0,0,0,0,0,0]],[([2,3],[]),([0],[]),([],[]),([],[]),([10],[]),([],[]),([1,4,5,6,7,8,9,11],[]),([5,6,11],[]),([],[]),([1,4,7,8,9,10],[])],[]⟩
def ir_gmo_view_placesl0 : C :=
 .seq (.reg [⟨.bin .lss (.s 9) (.s 8),none⟩] [] [] [(10,0,none)])
 (.seq (.cond (.s 10) (.skip)
  (.exit 0))
 (.seq (.block 1 (.seq (.seq (.reg [⟨.mv (.s 9),none⟩,⟨.iaS 1 (.s 7) (.s 9),none⟩,⟨.load 0 false 1 (.r 1),none⟩,⟨.mv (.r 0),none⟩,⟨.mv (.r 2),none⟩] [] [] [(5,3,none),(6,4,none)])
  (.drop [10] []))
  (.seq (.seq (.reg [⟨.mv (.s 6),none⟩,⟨.bin .lss (.r 0) (.c (.int .i64 0)),none⟩,⟨.mv (.r 1),none⟩,⟨.mv (.s 6),some (2,false)⟩,⟨.mv (.s 4),some (2,false)⟩,⟨.len 1 (.r 4),some (2,false)⟩,⟨.bin .geq (.r 3) (.r 5),some (2,false)⟩,⟨.pick (.r 2) (.c (.bool true)) (.r 6),none⟩,⟨.mv (.r 7),none⟩,⟨.mv (.s 4),some (8,false)⟩,⟨.mv (.s 6),some (8,false)⟩,⟨.iaS 1 (.r 9) (.r 10),some (8,false)⟩,⟨.load 0 false 1 (.r 11),some (8,false)⟩,⟨.bin .gtr (.r 12) (.c (.int .i64 0)),some (8,false)⟩,⟨.pick (.r 8) (.c (.bool true)) (.r 13),none⟩] [] [] [(11,14,none)])
  (.cond (.s 11) (.seq (.seq (.reg [⟨.mv (.c (.nils)),none⟩,⟨.mv (.c (.bool false)),none⟩] [] [] [(2,0,none),(3,1,none)])
   (.drop [1,4,5,6,7,8,9,11] []))
   (.ret))
   (.skip)))
  (.seq (.reg [⟨.mv (.s 4),none⟩,⟨.mv (.s 6),none⟩,⟨.mv (.s 5),none⟩,⟨.bin .add (.r 2) (.c (.int .i64 1)),none⟩,⟨.iaS 1 (.r 0) (.r 1),none⟩,⟨.store 0 1 (.r 4) (.r 3),none⟩] [] [] [])
  (.drop [5,6,11] [])))))
 (.reg [⟨.bin .add (.s 9) (.c (.int .i64 1)),none⟩,⟨.mv (.r 0),none⟩] [] [] [(9,1,none)])))
def ir_gmo_view_places : Vm.Fn := ⟨[0,1,4,5,6,7,8,15,16,17,18,36],0,0,[.slot 2,.slot 3],.seq (.seq (.reg [⟨.mv (.c (.nils)),none⟩,⟨.mv (.c (.bool false)),none⟩] [] [] [(2,0,none),(3,1,none)])
 (.drop [2,3] []))
 (.seq (.seq (.reg [⟨.mv (.s 0),none⟩,⟨.nilck (.r 0),none⟩,⟨.off 5 (.r 1),none⟩,⟨.load 0 false 1 (.r 2),none⟩,⟨.len 1 (.r 3),none⟩,⟨.mksl [.int .i64 0] 8 (.r 4) (.r 4),none⟩,⟨.mv (.r 5),none⟩] [] [] [(4,6,none)])
 (.drop [0] []))
 (.seq (.seq (.reg [⟨.mv (.s 1),none⟩,⟨.len 1 (.r 0),none⟩,⟨.mv (.c (.int .i64 0)),none⟩] [] [] [(7,0,none),(8,1,none),(9,2,none)])
 (.block 0 (.loop ir_gmo_view_placesl0)))
 (.seq (.seq (.reg [⟨.mv (.s 4),none⟩,⟨.mv (.s 1),none⟩,⟨.len 1 (.r 1),none⟩,⟨.mv (.s 4),none⟩,⟨.len 1 (.r 3),none⟩,⟨.bin .eql (.r 2) (.r 4),none⟩,⟨.mv (.r 0),none⟩,⟨.mv (.r 5),none⟩] [] [] [(2,6,none),(3,7,none)])
 (.drop [1,4,7,8,9,10] []))
 (.ret))))⟩
def h19 : Vm.Hint := ⟨[0,1,2,3,4,5,7,14,21,22,23],[1,7],[],[[1,0],[0,0,0,0,0,0,0],[0,0],[0],[0,0,0,0,0,1,0],[0,0],[0],[0,2,0],[0,0,0,0,1],[0,0],[0,0]],[([0,2],[]),([1],[(true,0)]),([4],[]),([3,7],[]),([7],[]),([],[]),([],[]),([10],[]),([6],[(true,1)]),([],[]),([3,5,8,9,10],[])],[]⟩
def ir_ppo_Alll0 : C :=
 .seq (.reg [⟨.bin .lss (.s 9) (.c (.int .i64 13)),none⟩] [] [] [(10,0,none)])
 (.seq (.cond (.s 10) (.skip)
  (.exit 0))
 (.seq (.block 1 (.seq (.seq (.reg [⟨.ixA 13 1 true (.s 8) (.s 9),none⟩,⟨.lalloc 1 [.nilf],none⟩,⟨.store 0 1 (.r 1) (.r 0),none⟩] [(true,1)] [] [(6,1,some 3)])
  (.drop [10] []))
  (.seq (.reg [⟨.mv (.s 3),none⟩,⟨.mv (.s 5),none⟩,⟨.off 0 (.s 6),none⟩,⟨.load 0 false 1 (.r 2),none⟩,⟨.call .heap n_ppo_view_into [(.r 0),(.r 1),(.r 3)],none⟩] [] [] [])
  (.drop [6] [(true,1)]))))
 (.reg [⟨.bin .add (.s 9) (.c (.int .i64 1)),none⟩,⟨.mv (.r 0),none⟩] [] [] [(9,1,none)])))
def ir_ppo_All : Vm.Fn := ⟨[0,1,2,3,4,5,7,14,21,22,23],2,0,[.slot 2],.seq (.seq (.reg [⟨.lbox 0 5 (.s 0),none⟩,⟨.mv (.c (.nilp)),none⟩] [(true,0)] [] [(1,0,some 1),(2,1,none)])
 (.drop [0,2] []))
 (.seq (.seq (.reg [⟨.load 0 true 5 (.s 1),none⟩,⟨.call .val n_ppo_look [(.r 0)],none⟩,⟨.mv (.r 1),none⟩,⟨.ext (.r 2) 0,none⟩,⟨.ext (.r 2) 1,none⟩,⟨.mv (.r 3),none⟩,⟨.mv (.r 4),none⟩] [] [] [(3,5,none),(4,6,none)])
 (.drop [1] [(true,0)]))
 (.seq (.seq (.seq (.reg [⟨.mv (.s 4),none⟩,⟨.un .not (.r 0),none⟩] [] [] [(7,1,none)])
 (.drop [4] []))
 (.cond (.s 7) (.seq (.seq (.reg [⟨.mv (.c (.nilp)),none⟩] [] [] [(2,0,none)])
  (.drop [3,7] []))
  (.ret))
  (.skip)))
 (.seq (.seq (.reg [⟨.mv (.s 3),none⟩,⟨.nilck (.r 0),none⟩,⟨.off 0 (.r 1),none⟩,⟨.load 0 false 1 (.r 2),none⟩,⟨.len 1 (.r 3),none⟩,⟨.call .heap n_rel_New [(.r 4)],none⟩,⟨.mv (.r 5),none⟩] [] [] [(5,6,none)])
 (.drop [7] []))
 (.seq (.seq (.reg [⟨.call .val n_ppo_rules [],none⟩,⟨.mv (.c (.int .i64 0)),none⟩] [] [] [(8,0,none),(9,1,none)])
 (.block 0 (.loop ir_ppo_Alll0)))
 (.seq (.seq (.reg [⟨.mv (.s 5),none⟩,⟨.mv (.r 0),none⟩] [] [] [(2,1,none)])
 (.drop [3,5,8,9,10] []))
 (.ret))))))⟩
def h20 : Vm.Hint := ⟨[0,1,4,6,7,12,13,14,15,21,49],[],[],[[0],[0,0,0,0,0,0,0],[0],[0,0,0],[0],[0,0,0,0],[0,0,0],[0,0,0,0,0,0,0,0,0,0,0,0,0,0,0,0,0,0,0,0,0,0,0,0,0,0],[0],[0,0],[0]],[([2],[]),([],[]),([],[]),([8],[]),([],[]),([],[]),([10],[]),([9],[]),([0,1,3,4,5,6,7,10],[]),([3,4,9],[]),([0,1,5,6,7,8],[])],[]⟩
def ir_gmo_view_orderedl0 : C :=
 .seq (.seq (.reg [⟨.mv (.s 4),none⟩,⟨.mv (.s 3),none⟩,⟨.len 1 (.r 1),none⟩,⟨.bin .lss (.r 0) (.r 2),none⟩] [] [] [(9,3,none)])
 (.cond (.s 9) (.skip)
  (.exit 2)))
 (.seq (.block 3 (.seq (.seq (.reg [⟨.mv (.s 1),none⟩,⟨.mv (.s 0),none⟩,⟨.nilck (.r 1),none⟩,⟨.off 6 (.r 2),none⟩,⟨.load 0 false 1 (.r 3),none⟩,⟨.mv (.s 3),none⟩,⟨.mv (.s 4),none⟩,⟨.bin .sub (.r 6) (.c (.int .i64 1)),none⟩,⟨.iaS 1 (.r 5) (.r 7),none⟩,⟨.load 0 false 1 (.r 8),none⟩,⟨.look false false [.int .i64 0] (.r 4) (.r 9),none⟩,⟨.iaS 1 (.r 0) (.r 10),none⟩,⟨.load 0 false 1 (.r 11),none⟩,⟨.mv (.s 1),none⟩,⟨.mv (.s 0),none⟩,⟨.nilck (.r 14),none⟩,⟨.off 6 (.r 15),none⟩,⟨.load 0 false 1 (.r 16),none⟩,⟨.mv (.s 3),none⟩,⟨.mv (.s 4),none⟩,⟨.iaS 1 (.r 18) (.r 19),none⟩,⟨.load 0 false 1 (.r 20),none⟩,⟨.look false false [.int .i64 0] (.r 17) (.r 21),none⟩,⟨.iaS 1 (.r 13) (.r 22),none⟩,⟨.load 0 false 1 (.r 23),none⟩,⟨.bin .gtr (.r 12) (.r 24),none⟩] [] [(4,8),(4,9),(4,17),(4,20),(4,21),(4,22),(4,23),(4,24),(8,17),(8,20),(8,21),(8,22),(8,23),(8,24),(9,17),(9,20),(9,21),(9,22),(9,23),(9,24),(10,17),(10,20),(10,21),(10,22),(10,23),(10,24),(11,17),(11,20),(11,21),(11,22),(11,23),(11,24),(12,17),(12,20),(12,21),(12,22),(12,23),(12,24),(17,20),(17,21)] [(10,25,none)])
  (.drop [9] []))
  (.cond (.s 10) (.seq (.seq (.reg [⟨.mv (.c (.bool false)),none⟩] [] [] [(2,0,none)])
   (.drop [0,1,3,4,5,6,7,10] []))
   (.ret))
   (.skip))))
 (.seq (.reg [⟨.mv (.s 4),none⟩,⟨.bin .add (.r 0) (.c (.int .i64 1)),none⟩,⟨.mv (.r 1),none⟩] [] [] [(4,2,none)])
 (.drop [10] [])))
def ir_gmo_view_orderedl1 : C :=
 .seq (.reg [⟨.bin .lss (.s 7) (.s 6),none⟩] [] [] [(8,0,none)])
 (.seq (.cond (.s 8) (.skip)
  (.exit 0))
 (.seq (.block 1 (.seq (.seq (.reg [⟨.iaS 1 (.s 5) (.s 7),none⟩,⟨.load 0 false 1 (.r 0),none⟩,⟨.mv (.r 1),none⟩] [] [] [(3,2,none)])
  (.drop [8] []))
  (.seq (.reg [⟨.mv (.c (.int .i64 1)),none⟩] [] [] [(4,0,none)])
  (.block 2 (.loop ir_gmo_view_orderedl0)))))
 (.seq (.reg [⟨.bin .add (.s 7) (.c (.int .i64 1)),none⟩,⟨.mv (.r 0),none⟩] [] [] [(7,1,none)])
 (.drop [3,4,9] []))))
def ir_gmo_view_ordered : Vm.Fn := ⟨[0,1,4,6,7,12,13,14,15,21,49],0,0,[.slot 2],.seq (.seq (.reg [⟨.mv (.c (.bool false)),none⟩] [] [] [(2,0,none)])
 (.drop [2] []))
 (.seq (.seq (.reg [⟨.mv (.s 0),none⟩,⟨.nilck (.r 0),none⟩,⟨.off 0 (.r 1),none⟩,⟨.off 4 (.r 2),none⟩,⟨.load 0 false 1 (.r 3),none⟩,⟨.len 1 (.r 4),none⟩,⟨.mv (.c (.int .i64 0)),none⟩] [] [] [(5,4,none),(6,5,none),(7,6,none)])
 (.block 0 (.loop ir_gmo_view_orderedl1)))
 (.seq (.seq (.reg [⟨.mv (.c (.bool true)),none⟩] [] [] [(2,0,none)])
 (.drop [0,1,5,6,7,8] []))
 (.ret)))⟩
def h21 : Vm.Hint := ⟨[0,1,2,3,8,9,10,11,12,13,28,29,30,59,72,92],[],[],[[0],[0,0,0,0,0,0,0,0,0,0,0],[0],[0,0,0,0,0,0],[0],[0,0],[0,0,0,0,0,0,0,1,0,0,0,0,0,0,0,0,0,0,0,0,0,0,0,0,1,0,0,0],[0,0,0,0,0,0,0,0,0,0,0,0,0],[0,0],[0,0],[0,0,0,0,0,0,0,0,0,0,0,0,1,0,0,0,0,0],[0,0],[0,0,0],[0,0,0,0]],[([4],[]),([],[]),([],[]),([],[]),([],[]),([12],[]),([],[]),([13],[]),([7,14],[]),([7,13,14],[]),([0,1,2,3,5,10,11,12],[]),([9],[]),([6,8,15],[]),([6,8,15],[])],[]⟩
def ir_gmo_view_latestl0 : C :=
 .seq (.reg [⟨.bin .lss (.s 11) (.s 10),none⟩] [] [] [(12,0,none)])
 (.seq (.cond (.s 12) (.skip)
  (.exit 0))
 (.seq (.block 1 (.seq (.seq (.reg [⟨.mv (.s 11),none⟩,⟨.mv (.r 0),none⟩] [] [] [(7,1,none)])
  (.drop [12] []))
  (.seq (.seq (.reg [⟨.mv (.s 7),none⟩,⟨.mv (.s 2),none⟩,⟨.bin .eql (.r 0) (.r 1),none⟩,⟨.mv (.r 2),none⟩,⟨.mv (.s 0),some (3,false)⟩,⟨.mv (.s 7),some (3,false)⟩,⟨.mv (.s 5),some (3,false)⟩,⟨.call .heap n_gmo_view_stores [(.r 4),(.r 5),(.r 6)],some (3,false)⟩,⟨.un .not (.r 7),some (3,false)⟩,⟨.pick (.r 3) (.c (.bool true)) (.r 8),none⟩,⟨.mv (.r 9),none⟩,⟨.mv (.s 1),some (10,false)⟩,⟨.mv (.s 7),some (10,false)⟩,⟨.iaS 1 (.r 11) (.r 12),some (10,false)⟩,⟨.load 0 false 1 (.r 13),some (10,false)⟩,⟨.mv (.s 1),some (10,false)⟩,⟨.mv (.s 2),some (10,false)⟩,⟨.iaS 1 (.r 15) (.r 16),some (10,false)⟩,⟨.load 0 false 1 (.r 17),some (10,false)⟩,⟨.bin .gtr (.r 14) (.r 18),some (10,false)⟩,⟨.mv (.r 19),some (10,false)⟩,⟨.mv (.s 0),some (20,true)⟩,⟨.mv (.s 7),some (20,true)⟩,⟨.mv (.s 2),some (20,true)⟩,⟨.call .heap n_gmo_view_ahead [(.r 21),(.r 22),(.r 23)],some (20,true)⟩,⟨.un .not (.r 24),some (20,true)⟩,⟨.pick (.r 20) (.r 25) (.c (.bool false)),some (10,false)⟩,⟨.pick (.r 10) (.c (.bool true)) (.r 26),none⟩] [] [(13,17),(13,18),(14,17),(14,18)] [(13,27,none)])
  (.cond (.s 13) (.exit 1)
   (.skip)))
  (.seq (.seq (.reg [⟨.mv (.s 6),none⟩,⟨.bin .lss (.r 0) (.c (.int .i64 0)),none⟩,⟨.mv (.r 1),none⟩,⟨.mv (.s 1),some (2,false)⟩,⟨.mv (.s 7),some (2,false)⟩,⟨.iaS 1 (.r 3) (.r 4),some (2,false)⟩,⟨.load 0 false 1 (.r 5),some (2,false)⟩,⟨.mv (.s 1),some (2,false)⟩,⟨.mv (.s 6),some (2,false)⟩,⟨.iaS 1 (.r 7) (.r 8),some (2,false)⟩,⟨.load 0 false 1 (.r 9),some (2,false)⟩,⟨.bin .gtr (.r 6) (.r 10),some (2,false)⟩,⟨.pick (.r 2) (.c (.bool true)) (.r 11),none⟩] [] [(5,9),(5,10),(6,9),(6,10)] [(14,12,none)])
  (.drop [13] []))
  (.cond (.s 14) (.seq (.reg [⟨.mv (.s 7),none⟩,⟨.mv (.r 0),none⟩] [] [] [(6,1,none)])
   (.drop [7,14] []))
   (.skip))))))
 (.seq (.reg [⟨.bin .add (.s 11) (.c (.int .i64 1)),none⟩,⟨.mv (.r 0),none⟩] [] [] [(11,1,none)])
 (.drop [7,13,14] []))))
def ir_gmo_view_latest : Vm.Fn := ⟨[0,1,2,3,8,9,10,11,12,13,28,29,30,59,72,92],0,0,[.slot 4],.seq (.seq (.reg [⟨.mv (.c (.bool false)),none⟩] [] [] [(4,0,none)])
 (.drop [4] []))
 (.seq (.reg [⟨.mv (.s 0),none⟩,⟨.nilck (.r 0),none⟩,⟨.off 5 (.r 1),none⟩,⟨.load 0 false 1 (.r 2),none⟩,⟨.mv (.s 2),none⟩,⟨.iaS 33 (.r 3) (.r 4),none⟩,⟨.off 31 (.r 5),none⟩,⟨.load 0 false 1 (.r 6),none⟩,⟨.mv (.s 3),none⟩,⟨.bin .add (.r 7) (.r 8),none⟩,⟨.mv (.r 9),none⟩] [] [] [(5,10,none)])
 (.seq (.reg [⟨.mv (.c (.int .i64 (-1))),none⟩] [] [] [(6,0,none)])
 (.seq (.seq (.reg [⟨.mv (.s 0),none⟩,⟨.nilck (.r 0),none⟩,⟨.off 5 (.r 1),none⟩,⟨.load 0 false 1 (.r 2),none⟩,⟨.len 1 (.r 3),none⟩,⟨.mv (.c (.int .i64 0)),none⟩] [] [] [(10,4,none),(11,5,none)])
 (.block 0 (.loop ir_gmo_view_latestl0)))
 (.seq (.seq (.reg [⟨.mv (.s 0),none⟩,⟨.mv (.s 0),none⟩,⟨.nilck (.r 1),none⟩,⟨.off 5 (.r 2),none⟩,⟨.load 0 false 1 (.r 3),none⟩,⟨.mv (.s 2),none⟩,⟨.mv (.s 3),none⟩,⟨.iaS 33 (.r 4) (.r 5),none⟩,⟨.off 2 (.r 7),none⟩,⟨.off 18 (.r 8),none⟩,⟨.iaA 8 1 (.r 9) (.r 6),none⟩,⟨.load 0 false 1 (.r 10),none⟩,⟨.call .heap n_gmo_view_named [(.r 0),(.r 11)],none⟩,⟨.mv (.r 12),none⟩,⟨.ext (.r 13) 0,none⟩,⟨.ext (.r 13) 1,none⟩,⟨.mv (.r 14),none⟩,⟨.mv (.r 15),none⟩] [] [] [(8,16,none),(9,17,none)])
 (.drop [0,1,2,3,5,10,11,12] []))
 (.seq (.seq (.seq (.reg [⟨.mv (.s 9),none⟩,⟨.un .not (.r 0),none⟩] [] [] [(15,1,none)])
 (.drop [9] []))
 (.cond (.s 15) (.seq (.seq (.reg [⟨.mv (.s 6),none⟩,⟨.bin .lss (.r 0) (.c (.int .i64 0)),none⟩,⟨.mv (.r 1),none⟩] [] [] [(4,2,none)])
  (.drop [6,8,15] []))
  (.ret))
  (.skip)))
 (.seq (.seq (.reg [⟨.mv (.s 6),none⟩,⟨.mv (.s 8),none⟩,⟨.bin .eql (.r 0) (.r 1),none⟩,⟨.mv (.r 2),none⟩] [] [] [(4,3,none)])
 (.drop [6,8,15] []))
 (.ret)))))))⟩
def h22 : Vm.Hint := ⟨[0,1,2,3,8,9,10,11,12,13,14,15,23,50,60,65,66,67,110],[],[],[[0],[0,0,1,0,0,0,0,0],[0,0],[0],[0,0,0,0,0,0,0,0,0,0,0],[0],[0,0,0,0,0,0,0,0,0,0,0,0,1,0,0,0,0,0],[0],[0,0,0,1,0],[0,0,0,0,1,0],[0],[0,0,0,0,0,0],[0],[0,0],[0,0,0,1,0,0,0,0,0,0,0,0,0,0,0,0,0,0,0,0,0,0,0,0,0,0,0,1,0,0,0,0,0,0,0,1,0,0,0,1,0,0],[0],[0,0],[0]],[([4],[]),([],[]),([6],[]),([0,1,2,3,5,12],[]),([12],[]),([],[]),([2,5],[]),([10],[]),([9,13],[]),([9,13],[]),([0,1,3,7,8,14],[]),([14],[]),([],[]),([17],[]),([11],[]),([0,1,3,7,8,15,16,18],[]),([18],[]),([0,1,3,7,8,15,16,17],[])],[]⟩
def ir_gmo_view_atomicl0 : C :=
 .seq (.reg [⟨.bin .lss (.s 16) (.s 15),none⟩] [] [] [(17,0,none)])
 (.seq (.cond (.s 17) (.skip)
  (.exit 0))
 (.seq (.block 1 (.seq (.seq (.reg [⟨.mv (.s 16),none⟩,⟨.mv (.r 0),none⟩] [] [] [(11,1,none)])
  (.drop [17] []))
  (.seq (.seq (.reg [⟨.mv (.s 0),none⟩,⟨.mv (.s 11),none⟩,⟨.mv (.s 7),none⟩,⟨.call .heap n_gmo_view_stores [(.r 0),(.r 1),(.r 2)],none⟩,⟨.mv (.r 3),none⟩,⟨.mv (.s 0),some (4,true)⟩,⟨.nilck (.r 5),some (4,true)⟩,⟨.off 5 (.r 6),some (4,true)⟩,⟨.load 0 false 1 (.r 7),some (4,true)⟩,⟨.mv (.s 11),some (4,true)⟩,⟨.iaS 33 (.r 8) (.r 9),some (4,true)⟩,⟨.off 0 (.r 10),some (4,true)⟩,⟨.load 0 false 1 (.r 11),some (4,true)⟩,⟨.mv (.s 0),some (4,true)⟩,⟨.nilck (.r 13),some (4,true)⟩,⟨.off 5 (.r 14),some (4,true)⟩,⟨.load 0 false 1 (.r 15),some (4,true)⟩,⟨.mv (.s 1),some (4,true)⟩,⟨.iaS 33 (.r 16) (.r 17),some (4,true)⟩,⟨.off 0 (.r 18),some (4,true)⟩,⟨.load 0 false 1 (.r 19),some (4,true)⟩,⟨.bin .neq (.r 12) (.r 20),some (4,true)⟩,⟨.pick (.r 4) (.r 21) (.c (.bool false)),none⟩,⟨.mv (.r 22),none⟩,⟨.mv (.s 3),some (23,true)⟩,⟨.mv (.s 7),some (23,true)⟩,⟨.mv (.s 11),some (23,true)⟩,⟨.callv .heap (.r 24) [(.r 25),(.r 26)],some (23,true)⟩,⟨.mv (.s 8),some (23,true)⟩,⟨.bin .gtr (.r 27) (.r 28),some (23,true)⟩,⟨.pick (.r 23) (.r 29) (.c (.bool false)),none⟩,⟨.mv (.r 30),none⟩,⟨.mv (.s 3),some (31,true)⟩,⟨.mv (.s 7),some (31,true)⟩,⟨.mv (.s 11),some (31,true)⟩,⟨.callv .heap (.r 32) [(.r 33),(.r 34)],some (31,true)⟩,⟨.mv (.s 3),some (31,true)⟩,⟨.mv (.s 7),some (31,true)⟩,⟨.mv (.s 1),some (31,true)⟩,⟨.callv .heap (.r 36) [(.r 37),(.r 38)],some (31,true)⟩,⟨.bin .lss (.r 35) (.r 39),some (31,true)⟩,⟨.pick (.r 31) (.r 40) (.c (.bool false)),none⟩] [] [(8,16),(8,18),(8,20),(10,16),(10,18),(10,20),(12,16),(12,18),(12,20)] [(18,41,none)])
  (.drop [11] []))
  (.cond (.s 18) (.seq (.seq (.reg [⟨.mv (.c (.bool false)),none⟩] [] [] [(4,0,none)])
   (.drop [0,1,3,7,8,15,16,18] []))
   (.ret))
   (.skip)))))
 (.seq (.reg [⟨.bin .add (.s 16) (.c (.int .i64 1)),none⟩,⟨.mv (.r 0),none⟩] [] [] [(16,1,none)])
 (.drop [18] []))))
def ir_gmo_view_atomic : Vm.Fn := ⟨[0,1,2,3,8,9,10,11,12,13,14,15,23,50,60,65,66,67,110],0,0,[.slot 4],.seq (.seq (.reg [⟨.mv (.c (.bool false)),none⟩] [] [] [(4,0,none)])
 (.drop [4] []))
 (.seq (.reg [⟨.mv (.s 0),none⟩,⟨.mv (.s 1),none⟩,⟨.call .heap n_gmo_view_pair [(.r 0),(.r 1)],none⟩,⟨.mv (.r 2),none⟩,⟨.ext (.r 3) 0,none⟩,⟨.ext (.r 3) 1,none⟩,⟨.mv (.r 4),none⟩,⟨.mv (.r 5),none⟩] [] [] [(5,6,none),(6,7,none)])
 (.seq (.seq (.seq (.reg [⟨.mv (.s 6),none⟩,⟨.un .not (.r 0),none⟩] [] [] [(12,1,none)])
 (.drop [6] []))
 (.cond (.s 12) (.seq (.seq (.reg [⟨.mv (.c (.bool true)),none⟩] [] [] [(4,0,none)])
  (.drop [0,1,2,3,5,12] []))
  (.ret))
  (.skip)))
 (.seq (.seq (.reg [⟨.mv (.s 0),none⟩,⟨.nilck (.r 0),none⟩,⟨.off 5 (.r 1),none⟩,⟨.load 0 false 1 (.r 2),none⟩,⟨.mv (.s 1),none⟩,⟨.iaS 33 (.r 3) (.r 4),none⟩,⟨.off 31 (.r 5),none⟩,⟨.load 0 false 1 (.r 6),none⟩,⟨.mv (.s 2),none⟩,⟨.bin .add (.r 7) (.r 8),none⟩,⟨.mv (.r 9),none⟩] [] [] [(7,10,none)])
 (.drop [12] []))
 (.seq (.reg [⟨.mv (.c (.int .i64 0)),none⟩] [] [] [(8,0,none)])
 (.seq (.seq (.seq (.reg [⟨.mv (.s 0),none⟩,⟨.mv (.s 0),none⟩,⟨.nilck (.r 1),none⟩,⟨.off 5 (.r 2),none⟩,⟨.load 0 false 1 (.r 3),none⟩,⟨.mv (.s 5),none⟩,⟨.mv (.s 2),none⟩,⟨.iaS 33 (.r 4) (.r 5),none⟩,⟨.off 2 (.r 7),none⟩,⟨.off 18 (.r 8),none⟩,⟨.iaA 8 1 (.r 9) (.r 6),none⟩,⟨.load 0 false 1 (.r 10),none⟩,⟨.call .heap n_gmo_view_named [(.r 0),(.r 11)],none⟩,⟨.mv (.r 12),none⟩,⟨.ext (.r 13) 0,none⟩,⟨.ext (.r 13) 1,none⟩,⟨.mv (.r 14),none⟩,⟨.mv (.r 15),none⟩] [] [] [(9,16,none),(10,17,none)])
 (.drop [2,5] []))
 (.seq (.seq (.reg [⟨.mv (.s 10),none⟩] [] [] [(13,0,none)])
 (.drop [10] []))
 (.cond (.s 13) (.seq (.reg [⟨.mv (.s 3),none⟩,⟨.mv (.s 7),none⟩,⟨.mv (.s 9),none⟩,⟨.callv .heap (.r 0) [(.r 1),(.r 2)],none⟩,⟨.mv (.r 3),none⟩] [] [] [(8,4,none)])
  (.drop [9,13] []))
  (.skip))))
 (.seq (.seq (.seq (.reg [⟨.mv (.s 8),none⟩,⟨.mv (.s 3),none⟩,⟨.mv (.s 7),none⟩,⟨.mv (.s 1),none⟩,⟨.callv .heap (.r 1) [(.r 2),(.r 3)],none⟩,⟨.bin .gtr (.r 0) (.r 4),none⟩] [] [] [(14,5,none)])
 (.drop [9,13] []))
 (.cond (.s 14) (.seq (.seq (.reg [⟨.mv (.c (.bool false)),none⟩] [] [] [(4,0,none)])
  (.drop [0,1,3,7,8,14] []))
  (.ret))
  (.skip)))
 (.seq (.seq (.seq (.reg [⟨.mv (.s 0),none⟩,⟨.nilck (.r 0),none⟩,⟨.off 5 (.r 1),none⟩,⟨.load 0 false 1 (.r 2),none⟩,⟨.len 1 (.r 3),none⟩,⟨.mv (.c (.int .i64 0)),none⟩] [] [] [(15,4,none),(16,5,none)])
 (.drop [14] []))
 (.block 0 (.loop ir_gmo_view_atomicl0)))
 (.seq (.seq (.reg [⟨.mv (.c (.bool true)),none⟩] [] [] [(4,0,none)])
 (.drop [0,1,3,7,8,15,16,17] []))
 (.ret)))))))))⟩
def h23 : Vm.Hint := ⟨[1,2,5],[],[],[[0],[0,0,0,0,0]],[([2],[]),([0],[])],[]⟩
def ir_gmo_Judge_1 : Vm.Fn := ⟨[1,2,5],0,0,[.slot 2],.seq (.seq (.reg [⟨.mv (.c (.int .i64 0)),none⟩] [] [] [(2,0,none)])
 (.drop [2] []))
 (.seq (.seq (.reg [⟨.load 0 false 1 (.s 1),none⟩,⟨.mv (.s 0),none⟩,⟨.iaS 1 (.r 0) (.r 1),none⟩,⟨.load 0 false 1 (.r 2),none⟩,⟨.mv (.r 3),none⟩] [] [] [(2,4,none)])
 (.drop [0] []))
 (.ret))⟩
def h33 : Vm.Hint := ⟨[0,1,2,3,4,5,6,10,11,12,13,18,19,20,22,31],[5],[],[[0,0],[0],[0,0,0,0,0,0],[0],[0,0,0,1,0,0],[0,0,0],[0],[0,0],[0,0,0,0,0,0,1,0,0],[0],[0,0,0,0,1,0,0],[0],[0,0],[0,0],[0,0]],[([0,2],[]),([],[]),([],[]),([],[]),([10],[]),([],[]),([],[]),([13],[]),([],[]),([1,4,5,6,7,8,9,11,12,14],[(true,0)]),([6,14],[]),([15],[]),([15],[]),([4,5,11,12,13],[(true,0)]),([1,3,7,8,9,10],[])],[]⟩
def ir_gmo_view_mayl0 : C :=
 .seq (.reg [⟨.bin .lss (.s 12) (.s 11),none⟩] [] [] [(13,0,none)])
 (.seq (.cond (.s 13) (.skip)
  (.exit 2))
 (.seq (.block 3 (.seq (.seq (.reg [⟨.mv (.s 12),none⟩,⟨.mv (.r 0),none⟩] [] [] [(6,1,none)])
  (.drop [13] []))
  (.block 4 (.seq (.reg [⟨.off 29 (.s 5),none⟩,⟨.load 0 false 1 (.r 0),none⟩,⟨.mv (.r 1),none⟩,⟨.load 0 false 1 (.s 1),some (2,true)⟩,⟨.mv (.s 4),some (2,true)⟩,⟨.mv (.s 6),some (2,true)⟩,⟨.call .heap n_gmo_view_stale [(.r 3),(.r 4),(.r 5)],some (2,true)⟩,⟨.pick (.r 2) (.r 6) (.c (.bool false)),none⟩,⟨.mv (.r 7),none⟩] [] [] [(14,8,none)])
   (.cond (.s 14) (.seq (.seq (.reg [⟨.mv (.c (.int .i64 12)),none⟩] [] [] [(3,0,none)])
    (.drop [1,4,5,6,7,8,9,11,12,14] [(true,0)]))
    (.exit 0))
    (.seq (.seq (.reg [⟨.load 0 false 1 (.s 1),none⟩,⟨.mv (.s 4),none⟩,⟨.mv (.s 6),none⟩,⟨.mkfn 57 [] [(.s 1)],none⟩,⟨.call .heap n_gmo_view_atomic [(.r 0),(.r 1),(.r 2),(.r 3)],none⟩,⟨.un .not (.r 4),none⟩,⟨.mv (.r 5),none⟩] [] [] [(15,6,none)])
    (.drop [6,14] []))
    (.cond (.s 15) (.seq (.reg [⟨.mv (.c (.int .i64 13)),none⟩] [] [] [(3,0,none)])
     (.drop [15] []))
     (.skip))))))))
 (.seq (.reg [⟨.bin .add (.s 12) (.c (.int .i64 1)),none⟩,⟨.mv (.r 0),none⟩] [] [] [(12,1,none)])
 (.drop [15] []))))
def ir_gmo_view_mayl1 : C :=
 .seq (.reg [⟨.bin .lss (.s 9) (.s 8),none⟩] [] [] [(10,0,none)])
 (.seq (.cond (.s 10) (.skip)
  (.exit 0))
 (.seq (.block 1 (.seq (.seq (.reg [⟨.mv (.s 9),none⟩,⟨.iaS 33 (.s 7) (.s 9),none⟩,⟨.load 0 true 33 (.r 1),none⟩,⟨.lalloc 0 zz0,none⟩,⟨.mv (.r 0),none⟩,⟨.store 0 33 (.r 3) (.r 2),none⟩] [(true,0)] [] [(4,4,none),(5,3,some 1)])
  (.drop [10] []))
  (.seq (.reg [⟨.off 32 (.s 5),none⟩,⟨.load 0 false 1 (.r 0),none⟩,⟨.mv (.c (.int .i64 0)),none⟩] [] [] [(11,1,none),(12,2,none)])
  (.block 2 (.loop ir_gmo_view_mayl0)))))
 (.seq (.reg [⟨.bin .add (.s 9) (.c (.int .i64 1)),none⟩,⟨.mv (.r 0),none⟩] [] [] [(9,1,none)])
 (.drop [4,5,11,12,13] [(true,0)]))))
def ir_gmo_view_may : Vm.Fn := ⟨[0,1,2,3,4,5,6,10,11,12,13,18,19,20,22,31],1,0,[.slot 2],.seq (.seq (.reg [⟨.hbox 1 (.s 0),none⟩,⟨.mv (.c (.int .i64 0)),none⟩] [] [] [(1,0,none),(2,1,none)])
 (.drop [0,2] []))
 (.seq (.reg [⟨.mv (.c (.int .i64 0)),none⟩] [] [] [(3,0,none)])
 (.seq (.seq (.reg [⟨.load 0 false 1 (.s 1),none⟩,⟨.nilck (.r 0),none⟩,⟨.off 5 (.r 1),none⟩,⟨.load 0 false 1 (.r 2),none⟩,⟨.len 1 (.r 3),none⟩,⟨.mv (.c (.int .i64 0)),none⟩] [] [] [(7,3,none),(8,4,none),(9,5,none)])
 (.block 0 (.loop ir_gmo_view_mayl1)))
 (.seq (.seq (.reg [⟨.mv (.s 3),none⟩,⟨.mv (.r 0),none⟩] [] [] [(2,1,none)])
 (.drop [1,3,7,8,9,10] []))
 (.ret))))⟩
def h34 : Vm.Hint := ⟨[0,2,3,5,6,7,8,9,19,20,21,22,28,56,57,58,59,64,65,66,69],[8],[],[[0],[0,0,0,0,1,0],[0,0,0,0,0,0,0],[0],[0,0,0],[0],[0,0,0,0],[0,0,0],[0,0,0,0,0,0,0,0,0,0,0,0,0,0,0,0,0,0,0,0,1],[0,0],[0,0,0,0,0,0],[0],[0,0,0,1,0,0],[0,0,0],[0],[0,0],[0,0],[0,0,0,0,1],[0,0],[0,0],[0,0]],[([1],[]),([],[]),([],[]),([],[]),([11],[]),([],[]),([],[]),([],[]),([12],[]),([3,4,12],[]),([8,9,10,11],[]),([],[]),([16],[]),([],[]),([],[]),([19],[]),([],[]),([7,20],[]),([7,20],[]),([5,6,17,18,19],[(true,0)]),([0,2,13,14,15,16],[])],[]⟩
def ir_gmo_view_mustl0 : C :=
 .seq (.seq (.reg [⟨.mv (.s 4),none⟩,⟨.mv (.s 3),none⟩,⟨.len 1 (.r 1),none⟩,⟨.bin .lss (.r 0) (.r 2),none⟩] [] [] [(12,3,none)])
 (.cond (.s 12) (.skip)
  (.exit 2)))
 (.seq (.block 3 (.seq (.reg [⟨.mv (.s 2),none⟩,⟨.mv (.s 0),none⟩,⟨.nilck (.r 1),none⟩,⟨.off 6 (.r 2),none⟩,⟨.load 0 false 1 (.r 3),none⟩,⟨.mv (.s 3),none⟩,⟨.mv (.s 4),none⟩,⟨.bin .sub (.r 6) (.c (.int .i64 1)),none⟩,⟨.iaS 1 (.r 5) (.r 7),none⟩,⟨.load 0 false 1 (.r 8),none⟩,⟨.look false false [.int .i64 0] (.r 4) (.r 9),none⟩,⟨.mv (.s 0),none⟩,⟨.nilck (.r 11),none⟩,⟨.off 6 (.r 12),none⟩,⟨.load 0 false 1 (.r 13),none⟩,⟨.mv (.s 3),none⟩,⟨.mv (.s 4),none⟩,⟨.iaS 1 (.r 15) (.r 16),none⟩,⟨.load 0 false 1 (.r 17),none⟩,⟨.look false false [.int .i64 0] (.r 14) (.r 18),none⟩,⟨.call .heap n_rel_Rel_Add [(.r 0),(.r 10),(.r 19)],none⟩] [] [(4,8),(4,9),(4,14),(4,17),(4,18),(4,19),(8,14),(8,17),(8,18),(8,19),(9,14),(9,17),(9,18),(9,19),(10,14),(10,17),(10,18),(10,19),(14,17),(14,18)] [])
  (.drop [12] [])))
 (.reg [⟨.mv (.s 4),none⟩,⟨.bin .add (.r 0) (.c (.int .i64 1)),none⟩,⟨.mv (.r 1),none⟩] [] [] [(4,2,none)]))
def ir_gmo_view_mustl1 : C :=
 .seq (.reg [⟨.bin .lss (.s 10) (.s 9),none⟩] [] [] [(11,0,none)])
 (.seq (.cond (.s 11) (.skip)
  (.exit 0))
 (.seq (.block 1 (.seq (.seq (.reg [⟨.iaS 1 (.s 8) (.s 10),none⟩,⟨.load 0 false 1 (.r 0),none⟩,⟨.mv (.r 1),none⟩] [] [] [(3,2,none)])
  (.drop [11] []))
  (.seq (.reg [⟨.mv (.c (.int .i64 1)),none⟩] [] [] [(4,0,none)])
  (.block 2 (.loop ir_gmo_view_mustl0)))))
 (.seq (.reg [⟨.bin .add (.s 10) (.c (.int .i64 1)),none⟩,⟨.mv (.r 0),none⟩] [] [] [(10,1,none)])
 (.drop [3,4,12] []))))
def ir_gmo_view_mustl2 : C :=
 .seq (.reg [⟨.bin .lss (.s 18) (.s 17),none⟩] [] [] [(19,0,none)])
 (.seq (.cond (.s 19) (.skip)
  (.exit 6))
 (.seq (.block 7 (.seq (.seq (.reg [⟨.mv (.s 18),none⟩,⟨.mv (.r 0),none⟩] [] [] [(7,1,none)])
  (.drop [19] []))
  (.seq (.reg [⟨.off 29 (.s 6),none⟩,⟨.load 0 false 1 (.r 0),none⟩] [] [] [(20,1,none)])
  (.cond (.s 20) (.seq (.reg [⟨.mv (.s 0),none⟩,⟨.mv (.s 2),none⟩,⟨.mv (.s 5),none⟩,⟨.mv (.s 7),none⟩,⟨.call .heap n_gmo_view_read [(.r 0),(.r 1),(.r 2),(.r 3)],none⟩] [] [] [])
   (.drop [7,20] []))
   (.skip)))))
 (.seq (.reg [⟨.bin .add (.s 18) (.c (.int .i64 1)),none⟩,⟨.mv (.r 0),none⟩] [] [] [(18,1,none)])
 (.drop [7,20] []))))
def ir_gmo_view_mustl3 : C :=
 .seq (.reg [⟨.bin .lss (.s 15) (.s 14),none⟩] [] [] [(16,0,none)])
 (.seq (.cond (.s 16) (.skip)
  (.exit 4))
 (.seq (.block 5 (.seq (.seq (.reg [⟨.mv (.s 15),none⟩,⟨.iaS 33 (.s 13) (.s 15),none⟩,⟨.load 0 true 33 (.r 1),none⟩,⟨.lalloc 0 zz0,none⟩,⟨.mv (.r 0),none⟩,⟨.store 0 33 (.r 3) (.r 2),none⟩] [(true,0)] [] [(5,4,none),(6,3,some 1)])
  (.drop [16] []))
  (.seq (.reg [⟨.off 32 (.s 6),none⟩,⟨.load 0 false 1 (.r 0),none⟩,⟨.mv (.c (.int .i64 0)),none⟩] [] [] [(17,1,none),(18,2,none)])
  (.block 6 (.loop ir_gmo_view_mustl2)))))
 (.seq (.reg [⟨.bin .add (.s 15) (.c (.int .i64 1)),none⟩,⟨.mv (.r 0),none⟩] [] [] [(15,1,none)])
 (.drop [5,6,17,18,19] [(true,0)]))))
def ir_gmo_view_must : Vm.Fn := ⟨[0,2,3,5,6,7,8,9,19,20,21,22,28,56,57,58,59,64,65,66,69],1,0,[.slot 1],.seq (.seq (.reg [⟨.mv (.c (.nilp)),none⟩] [] [] [(1,0,none)])
 (.drop [1] []))
 (.seq (.reg [⟨.mv (.s 0),none⟩,⟨.nilck (.r 0),none⟩,⟨.off 0 (.r 1),none⟩,⟨.load 0 true 5 (.r 2),none⟩,⟨.call .heap n_ppo_All [(.r 3)],none⟩,⟨.mv (.r 4),none⟩] [] [] [(2,5,none)])
 (.seq (.seq (.reg [⟨.mv (.s 0),none⟩,⟨.nilck (.r 0),none⟩,⟨.off 0 (.r 1),none⟩,⟨.off 4 (.r 2),none⟩,⟨.load 0 false 1 (.r 3),none⟩,⟨.len 1 (.r 4),none⟩,⟨.mv (.c (.int .i64 0)),none⟩] [] [] [(8,4,none),(9,5,none),(10,6,none)])
 (.block 0 (.loop ir_gmo_view_mustl1)))
 (.seq (.seq (.seq (.reg [⟨.mv (.s 0),none⟩,⟨.nilck (.r 0),none⟩,⟨.off 5 (.r 1),none⟩,⟨.load 0 false 1 (.r 2),none⟩,⟨.len 1 (.r 3),none⟩,⟨.mv (.c (.int .i64 0)),none⟩] [] [] [(13,3,none),(14,4,none),(15,5,none)])
 (.drop [8,9,10,11] []))
 (.block 4 (.loop ir_gmo_view_mustl3)))
 (.seq (.seq (.reg [⟨.mv (.s 2),none⟩,⟨.mv (.r 0),none⟩] [] [] [(1,1,none)])
 (.drop [0,2,13,14,15,16] []))
 (.ret)))))⟩
def h35 : Vm.Hint := ⟨[0,2,3,4,6,7,8,9,11,16,17,18,19,37,39,40,41,53,68,69,70,71],[6],[8],[[0,0],[0,0,0,0],[0,0,0,0],[0],[0,0,1,0],[0,0,0,0,0,0,0,0],[0,0],[0,0,0,0],[1],[0,0,0,0,0],[0,0,0],[0],[0,0],[0,0,0,0,0,0,0,0,0,0,0],[0,0,0,0],[0,0,1,2,0],[0,0,0,0,0,0,0,0,0,0],[0],[0,0,0],[0,0,0,0,0,0,0],[0,0],[0,0],[0,0],[0,0,0,0,0]],[([1,2],[]),([],[]),([],[]),([],[]),([12],[]),([4],[(true,0)]),([],[]),([9,10,11,12],[]),([],[]),([18,19,20,21],[]),([13],[]),([],[]),([16],[]),([],[]),([14,15,17],[]),([],[]),([7],[]),([],[]),([21],[]),([8],[]),([],[]),([7,17],[]),([0,3,5,6,14,15,16],[(false,0)]),([0,3,5,6,13],[(false,0)])],[]⟩
def ir_rel_Rel_Orderl0 : C :=
 .seq (.reg [⟨.bin .lss (.s 11) (.s 10),none⟩] [] [] [(12,0,none)])
 (.seq (.cond (.s 12) (.skip)
  (.exit 0))
 (.seq (.block 1 (.seq (.seq (.reg [⟨.iaS 2 (.s 9) (.s 11),none⟩,⟨.load 0 true 2 (.r 0),none⟩,⟨.lalloc 0 [.int .i64 0,.int .i64 0],none⟩,⟨.store 0 2 (.r 2) (.r 1),none⟩] [(true,0)] [] [(4,2,some 1)])
  (.drop [12] []))
  (.seq (.reg [⟨.mv (.s 3),none⟩,⟨.iaA 2 1 (.s 4) (.c (.int .i64 1)),none⟩,⟨.load 0 false 1 (.r 1),none⟩,⟨.iaS 1 (.r 0) (.r 2),none⟩,⟨.load 0 false 1 (.r 3),none⟩,⟨.bin .add (.r 4) (.c (.int .i64 1)),none⟩,⟨.iaS 1 (.r 0) (.r 2),none⟩,⟨.store 0 1 (.r 6) (.r 5),none⟩] [] [] [])
  (.drop [4] [(true,0)]))))
 (.reg [⟨.bin .add (.s 11) (.c (.int .i64 1)),none⟩,⟨.mv (.r 0),none⟩] [] [] [(11,1,none)])))
def ir_rel_Rel_Orderl1 : C :=
 .seq (.reg [⟨.bin .lss (.s 20) (.s 19),none⟩] [] [] [(21,0,none)])
 (.seq (.cond (.s 21) (.skip)
  (.exit 6))
 (.seq (.block 7 (.seq (.seq (.reg [⟨.iaS 1 (.s 18) (.s 20),none⟩,⟨.load 0 false 1 (.r 0),none⟩,⟨.mv (.r 1),none⟩] [] [] [(8,2,none)])
  (.drop [21] []))
  (.seq (.reg [⟨.mv (.s 3),none⟩,⟨.mv (.s 8),none⟩,⟨.iaS 1 (.r 0) (.r 1),none⟩,⟨.load 0 false 1 (.r 2),none⟩,⟨.bin .sub (.r 3) (.c (.int .i64 1)),none⟩,⟨.iaS 1 (.r 0) (.r 1),none⟩,⟨.store 0 1 (.r 5) (.r 4),none⟩] [] [] [])
  (.drop [8] []))))
 (.reg [⟨.bin .add (.s 20) (.c (.int .i64 1)),none⟩,⟨.mv (.r 0),none⟩] [] [] [(20,1,none)])))
def ir_rel_Rel_Orderl2 : C :=
 .seq (.reg [⟨.bin .lss (.s 15) (.s 14),none⟩] [] [] [(16,0,none)])
 (.seq (.cond (.s 16) (.skip)
  (.exit 4))
 (.seq (.block 5 (.seq (.seq (.reg [⟨.mv (.s 15),none⟩,⟨.mv (.r 0),none⟩] [] [] [(7,1,none)])
  (.drop [16] []))
  (.seq (.seq (.reg [⟨.mv (.s 5),none⟩,⟨.mv (.s 7),none⟩,⟨.iaS 1 (.r 0) (.r 1),none⟩,⟨.load 0 false 1 (.r 2),none⟩,⟨.mv (.r 3),none⟩,⟨.mv (.s 3),some (4,false)⟩,⟨.mv (.s 7),some (4,false)⟩,⟨.iaS 1 (.r 5) (.r 6),some (4,false)⟩,⟨.load 0 false 1 (.r 7),some (4,false)⟩,⟨.bin .gtr (.r 8) (.c (.int .i64 0)),some (4,false)⟩,⟨.pick (.r 4) (.c (.bool true)) (.r 9),none⟩] [] [] [(17,10,none)])
  (.cond (.s 17) (.exit 5)
   (.skip)))
  (.seq (.seq (.reg [⟨.mv (.s 5),none⟩,⟨.mv (.s 7),none⟩,⟨.iaS 1 (.r 0) (.r 1),none⟩,⟨.store 0 1 (.r 2) (.c (.bool true)),none⟩] [] [] [])
  (.drop [14,15,17] []))
  (.seq (.reg [⟨.mv (.s 6),none⟩,⟨.mv (.s 7),none⟩,⟨.lit 1 1 [[.int .i64 0]] [(0,(.r 1))],none⟩,⟨.app 2 1 8 (.r 0) (.r 2),none⟩,⟨.mv (.r 3),none⟩] [] [] [(6,4,some 0)])
  (.seq (.seq (.seq (.reg [⟨.mv (.s 0),none⟩,⟨.nilck (.r 0),none⟩,⟨.off 0 (.r 1),none⟩,⟨.load 0 false 1 (.r 2),none⟩,⟨.mv (.s 7),none⟩,⟨.iaS 1 (.r 3) (.r 4),none⟩,⟨.load 0 false 1 (.r 5),none⟩,⟨.call .val n_rel_row_each [(.r 6)],none⟩,⟨.len 1 (.r 7),none⟩,⟨.mv (.c (.int .i64 0)),none⟩] [] [] [(18,7,none),(19,8,none),(20,9,none)])
  (.drop [7] []))
  (.block 6 (.loop ir_rel_Rel_Orderl1)))
  (.exit 3)))))))
 (.seq (.reg [⟨.bin .add (.s 15) (.c (.int .i64 1)),none⟩,⟨.mv (.r 0),none⟩] [] [] [(15,1,none)])
 (.drop [7,17] []))))
def ir_rel_Rel_Orderl3 : C :=
 .seq (.seq (.seq (.reg [⟨.mv (.s 6),none⟩,⟨.len 1 (.r 0),none⟩,⟨.mv (.s 0),none⟩,⟨.call .val n_rel_Rel_Len [(.r 2)],none⟩,⟨.bin .lss (.r 1) (.r 3),none⟩] [] [] [(13,4,none)])
 (.drop [18,19,20,21] []))
 (.cond (.s 13) (.skip)
  (.exit 2)))
 (.block 3 (.seq (.seq (.seq (.reg [⟨.mv (.s 3),none⟩,⟨.len 1 (.r 0),none⟩,⟨.mv (.c (.int .i64 0)),none⟩] [] [] [(14,1,none),(15,2,none)])
  (.drop [13] []))
  (.block 4 (.loop ir_rel_Rel_Orderl2)))
  (.seq (.seq (.reg [⟨.mv (.c (.nils)),none⟩,⟨.mv (.c (.bool false)),none⟩] [] [] [(1,0,none),(2,1,none)])
  (.drop [0,3,5,6,14,15,16] [(false,0)]))
  (.ret))))
def ir_rel_Rel_Order : Vm.Fn := ⟨[0,2,3,4,6,7,8,9,11,16,17,18,19,37,39,40,41,53,68,69,70,71],1,1,[.slot 1,.slot 2],.seq (.seq (.reg [⟨.mv (.c (.nils)),none⟩,⟨.mv (.c (.bool false)),none⟩] [] [] [(1,0,none),(2,1,none)])
 (.drop [1,2] []))
 (.seq (.reg [⟨.mv (.s 0),none⟩,⟨.call .val n_rel_Rel_Len [(.r 0)],none⟩,⟨.mksl [.int .i64 0] 8 (.r 1) (.r 1),none⟩,⟨.mv (.r 2),none⟩] [] [] [(3,3,none)])
 (.seq (.seq (.reg [⟨.mv (.s 0),none⟩,⟨.call .val n_rel_Rel_Pairs [(.r 0)],none⟩,⟨.len 1 (.r 1),none⟩,⟨.mv (.c (.int .i64 0)),none⟩] [] [] [(9,1,none),(10,2,none),(11,3,none)])
 (.block 0 (.loop ir_rel_Rel_Orderl0)))
 (.seq (.seq (.reg [⟨.mv (.s 0),none⟩,⟨.call .val n_rel_Rel_Len [(.r 0)],none⟩,⟨.mksl [.bool false] 1 (.r 1) (.r 1),none⟩,⟨.mv (.r 2),none⟩] [] [] [(5,3,none)])
 (.drop [9,10,11,12] []))
 (.seq (.reg [⟨.onil 0,none⟩] [(false,0)] [] [(6,0,some 0)])
 (.seq (.block 2 (.loop ir_rel_Rel_Orderl3))
 (.seq (.seq (.reg [⟨.mv (.s 6),none⟩,⟨.mv (.s 0),none⟩,⟨.eqn .ptr true (.r 1) (.c (.nilp)),none⟩,⟨.mv (.r 0),none⟩,⟨.mv (.r 2),none⟩] [] [] [(1,3,none),(2,4,none)])
 (.drop [0,3,5,6,13] [(false,0)]))
 (.ret)))))))⟩
def h36 : Vm.Hint := ⟨[0,1,2,3,4,5,6,7,8,9,11,12,13,16,17,18,19,25,43],[1,7,9],[3],[[1,0],[1],[0,0,0],[0],[0,0,0,0],[0,0,0],[0],[0,0,0,2,0,0],[0,0,0],[0,0,0,0,0],[0,0,0,0,0,0,0,0,0,0,3,0],[0,0,0,0],[0,0,0,0,0,0],[0,0,1,2,0],[0,0],[0,0],[0,0]],[([0,2],[]),([],[]),([1],[(true,0)]),([],[]),([12],[]),([5],[]),([],[]),([16],[]),([],[]),([17],[]),([6,8],[]),([],[]),([7,18],[(true,1)]),([7,9,18],[(true,2),(true,1)]),([6,7,17],[(true,1)]),([4,13,14,15,16],[]),([3,10,11,12],[(false,0)])],[]⟩
def ir_cand_Eventsl0 : C :=
 .seq (.reg [⟨.bin .lss (.s 15) (.s 14),none⟩] [] [] [(16,0,none)])
 (.seq (.cond (.s 16) (.skip)
  (.exit 2))
 (.seq (.block 3 (.seq (.seq (.reg [⟨.mv (.s 15),none⟩,⟨.iaS 27 (.s 13) (.s 15),none⟩,⟨.load 0 true 27 (.r 1),none⟩,⟨.lalloc 1 zz1,none⟩,⟨.mv (.r 0),none⟩,⟨.store 0 27 (.r 3) (.r 2),none⟩] [(true,1)] [] [(6,4,none),(7,3,some 3)])
  (.drop [16] []))
  (.seq (.seq (.reg [⟨.load 0 true 27 (.s 7),none⟩,⟨.call .val n_cand_isEvent [(.r 0)],none⟩,⟨.un .not (.r 1),none⟩] [] [] [(17,2,none)])
  (.cond (.s 17) (.exit 3)
   (.skip)))
  (.seq (.seq (.reg [⟨.off 0 (.s 7),none⟩,⟨.off 1 (.r 0),none⟩,⟨.off 0 (.r 1),none⟩,⟨.load 0 false 1 (.r 2),none⟩,⟨.mv (.r 3),none⟩] [] [] [(8,4,none)])
  (.drop [17] []))
  (.seq (.seq (.reg [⟨.mv (.s 4),none⟩,⟨.mv (.s 6),none⟩,⟨.load 0 true 27 (.s 7),none⟩,⟨.mv (.s 8),none⟩,⟨.call .val n_ops_Loads [(.r 3)],none⟩,⟨.mv (.s 8),none⟩,⟨.call .val n_ops_Stores [(.r 5)],none⟩,⟨.mv (.s 8),none⟩,⟨.call .val n_ops_Size [(.r 7)],none⟩,⟨.build zz0 [(0,1,(.r 0)),(1,1,(.r 1)),(2,27,(.r 2)),(29,1,(.r 4)),(30,1,(.r 6)),(31,1,(.c (.int .i64 (-1)))),(32,1,(.r 8))],none⟩,⟨.lalloc 2 zz0,none⟩,⟨.store 0 33 (.r 10) (.r 9),none⟩] [(true,2)] [(2,4),(2,6),(2,8),(2,10),(4,10),(6,10),(8,10)] [(9,10,some 5)])
  (.drop [6,8] []))
  (.seq (.seq (.reg [⟨.off 0 (.s 7),none⟩,⟨.off 12 (.r 0),none⟩,⟨.load 0 false 1 (.r 1),none⟩,⟨.bin .leq (.r 2) (.c (.int .u64 1024)),none⟩] [] [] [(18,3,none)])
  (.cond (.s 18) (.seq (.reg [⟨.off 0 (.s 7),none⟩,⟨.off 12 (.r 0),none⟩,⟨.load 0 false 1 (.r 1),none⟩,⟨.i2i .i64 (.r 2),none⟩,⟨.off 31 (.s 9),none⟩,⟨.store 0 1 (.r 4) (.r 3),none⟩] [] [] [])
   (.drop [7,18] [(true,1)]))
   (.skip)))
  (.seq (.reg [⟨.mv (.s 3),none⟩,⟨.load 0 true 33 (.s 9),none⟩,⟨.lit 1 33 [zz0] [(0,(.r 1))],none⟩,⟨.app 2 33 248 (.r 0) (.r 2),none⟩,⟨.mv (.r 3),none⟩] [] [] [(3,4,some 0)])
  (.drop [7,9,18] [(true,2),(true,1)]))))))))
 (.seq (.reg [⟨.bin .add (.s 15) (.c (.int .i64 1)),none⟩,⟨.mv (.r 0),none⟩] [] [] [(15,1,none)])
 (.drop [6,7,17] [(true,1)]))))
def ir_cand_Eventsl1 : C :=
 .seq (.reg [⟨.bin .lss (.s 11) (.c (.int .i64 3)),none⟩] [] [] [(12,0,none)])
 (.seq (.cond (.s 12) (.skip)
  (.exit 0))
 (.seq (.block 1 (.seq (.seq (.reg [⟨.mv (.s 11),none⟩,⟨.ixA 3 1 false (.s 10) (.s 11),none⟩,⟨.mv (.r 0),none⟩,⟨.mv (.r 1),none⟩] [] [] [(4,2,none),(5,3,none)])
  (.drop [12] []))
  (.seq (.seq (.reg [⟨.mv (.s 5),none⟩,⟨.len 1 (.r 0),none⟩,⟨.mv (.c (.int .i64 0)),none⟩] [] [] [(13,0,none),(14,1,none),(15,2,none)])
  (.drop [5] []))
  (.block 2 (.loop ir_cand_Eventsl0)))))
 (.seq (.reg [⟨.bin .add (.s 11) (.c (.int .i64 1)),none⟩,⟨.mv (.r 0),none⟩] [] [] [(11,1,none)])
 (.drop [4,13,14,15,16] []))))
def ir_cand_Events : Vm.Fn := ⟨[0,1,2,3,4,5,6,7,8,9,11,12,13,16,17,18,19,25,43],3,1,[.slot 2],.seq (.seq (.reg [⟨.lbox 0 5 (.s 0),none⟩,⟨.mv (.c (.nils)),none⟩] [(true,0)] [] [(1,0,some 1),(2,1,none)])
 (.drop [0,2] []))
 (.seq (.reg [⟨.onil 0,none⟩] [(false,0)] [] [(3,0,some 0)])
 (.seq (.seq (.seq (.reg [⟨.off 1 (.s 1),none⟩,⟨.load 0 true 3 (.r 0),none⟩,⟨.mv (.c (.int .i64 0)),none⟩] [] [] [(10,1,none),(11,2,none)])
 (.drop [1] [(true,0)]))
 (.block 0 (.loop ir_cand_Eventsl1)))
 (.seq (.seq (.reg [⟨.mv (.s 3),none⟩,⟨.mv (.r 0),none⟩] [] [] [(2,1,none)])
 (.drop [3,10,11,12] [(false,0)]))
 (.ret))))⟩
def h37 : Vm.Hint := ⟨[0],[],[],[[0],[0,0,0,0,0,0,0,0,0,0]],[([0],[]),([],[])],[]⟩
def ir_cand_faults : Vm.Fn := ⟨[0],0,0,[.slot 0],.seq (.seq (.reg [⟨.mv (.c (.nils)),none⟩] [] [] [(0,0,none)])
 (.drop [0] []))
 (.seq (.reg [⟨.build [.nilf] [(0,1,(.c (.fn 65 [] [])))],none⟩,⟨.build [.nilf] [(0,1,(.c (.fn 66 [] [])))],none⟩,⟨.build [.nilf] [(0,1,(.c (.fn 67 [] [])))],none⟩,⟨.build [.nilf] [(0,1,(.c (.fn 68 [] [])))],none⟩,⟨.build [.nilf] [(0,1,(.c (.fn 69 [] [])))],none⟩,⟨.build [.nilf] [(0,1,(.c (.fn 70 [] [])))],none⟩,⟨.build [.nilf] [(0,1,(.c (.fn 71 [] [])))],none⟩,⟨.build [.nilf] [(0,1,(.c (.fn 72 [] [])))],none⟩,⟨.lit 0 1 [[.nilf],[.nilf],[.nilf],[.nilf],[.nilf],[.nilf],[.nilf],[.nilf]] [(0,(.r 0)),(1,(.r 1)),(2,(.r 2)),(3,(.r 3)),(4,(.r 4)),(5,(.r 5)),(6,(.r 6)),(7,(.r 7))],none⟩,⟨.mv (.r 8),none⟩] [] [] [(0,9,none)])
 (.ret))⟩
def h38 : Vm.Hint := ⟨[0,1,4],[],[],[[0],[0,0,0,0,0,0,0,0,0]],[([2],[]),([0,1],[])],[]⟩
def ir_rel_Rel_is : Vm.Fn := ⟨[0,1,4],0,0,[.slot 2],.seq (.seq (.reg [⟨.mv (.c (.bool false)),none⟩] [] [] [(2,0,none)])
 (.drop [2] []))
 (.seq (.seq (.reg [⟨.mv (.s 1),none⟩,⟨.bin .geq (.r 0) (.c (.int .i64 0)),none⟩,⟨.mv (.r 1),none⟩,⟨.mv (.s 1),some (2,true)⟩,⟨.mv (.s 0),some (2,true)⟩,⟨.call .val n_rel_Rel_Len [(.r 4)],some (2,true)⟩,⟨.bin .lss (.r 3) (.r 5),some (2,true)⟩,⟨.pick (.r 2) (.r 6) (.c (.bool false)),none⟩,⟨.mv (.r 7),none⟩] [] [] [(2,8,none)])
 (.drop [0,1] []))
 (.ret))⟩
def h39 : Vm.Hint := ⟨[0,2,3,4,6,8,9,10,19,20,21,22],[],[3],[[0],[1],[0,0,0],[0],[0,0],[0,0,0,0,0,0,0,0,0,0],[0],[0,0,0],[0,0,0,0,1,2,0],[0,0],[0,0],[0,0]],[([1],[]),([],[]),([],[]),([],[]),([7],[]),([],[]),([],[]),([11],[]),([4],[]),([],[]),([3,8,9,10,11],[]),([0,2,5,6,7],[(false,0)])],[]⟩
def ir_rel_Rel_Pairsl0 : C :=
 .seq (.reg [⟨.bin .lss (.s 10) (.s 9),none⟩] [] [] [(11,0,none)])
 (.seq (.cond (.s 11) (.skip)
  (.exit 2))
 (.seq (.block 3 (.seq (.seq (.reg [⟨.iaS 1 (.s 8) (.s 10),none⟩,⟨.load 0 false 1 (.r 0),none⟩,⟨.mv (.r 1),none⟩] [] [] [(4,2,none)])
  (.drop [11] []))
  (.seq (.reg [⟨.mv (.s 2),none⟩,⟨.mv (.s 3),none⟩,⟨.mv (.s 4),none⟩,⟨.build [.int .i64 0,.int .i64 0] [(0,1,(.r 1)),(1,1,(.r 2))],none⟩,⟨.lit 1 2 [[.int .i64 0,.int .i64 0]] [(0,(.r 3))],none⟩,⟨.app 2 2 16 (.r 0) (.r 4),none⟩,⟨.mv (.r 5),none⟩] [] [] [(2,6,some 0)])
  (.drop [4] []))))
 (.reg [⟨.bin .add (.s 10) (.c (.int .i64 1)),none⟩,⟨.mv (.r 0),none⟩] [] [] [(10,1,none)])))
def ir_rel_Rel_Pairsl1 : C :=
 .seq (.reg [⟨.bin .lss (.s 6) (.s 5),none⟩] [] [] [(7,0,none)])
 (.seq (.cond (.s 7) (.skip)
  (.exit 0))
 (.seq (.block 1 (.seq (.seq (.reg [⟨.mv (.s 6),none⟩,⟨.mv (.r 0),none⟩] [] [] [(3,1,none)])
  (.drop [7] []))
  (.seq (.reg [⟨.mv (.s 0),none⟩,⟨.nilck (.r 0),none⟩,⟨.off 0 (.r 1),none⟩,⟨.load 0 false 1 (.r 2),none⟩,⟨.mv (.s 3),none⟩,⟨.iaS 1 (.r 3) (.r 4),none⟩,⟨.load 0 false 1 (.r 5),none⟩,⟨.call .val n_rel_row_each [(.r 6)],none⟩,⟨.len 1 (.r 7),none⟩,⟨.mv (.c (.int .i64 0)),none⟩] [] [] [(8,7,none),(9,8,none),(10,9,none)])
  (.block 2 (.loop ir_rel_Rel_Pairsl0)))))
 (.seq (.reg [⟨.bin .add (.s 6) (.c (.int .i64 1)),none⟩,⟨.mv (.r 0),none⟩] [] [] [(6,1,none)])
 (.drop [3,8,9,10,11] []))))
def ir_rel_Rel_Pairs : Vm.Fn := ⟨[0,2,3,4,6,8,9,10,19,20,21,22],0,1,[.slot 1],.seq (.seq (.reg [⟨.mv (.c (.nils)),none⟩] [] [] [(1,0,none)])
 (.drop [1] []))
 (.seq (.reg [⟨.onil 0,none⟩] [(false,0)] [] [(2,0,some 0)])
 (.seq (.seq (.reg [⟨.mv (.s 0),none⟩,⟨.call .val n_rel_Rel_Len [(.r 0)],none⟩,⟨.mv (.c (.int .i64 0)),none⟩] [] [] [(5,1,none),(6,2,none)])
 (.block 0 (.loop ir_rel_Rel_Pairsl1)))
 (.seq (.seq (.reg [⟨.mv (.s 2),none⟩,⟨.mv (.r 0),none⟩] [] [] [(1,1,none)])
 (.drop [0,2,5,6,7] [(false,0)]))
 (.ret))))⟩
def h40 : Vm.Hint := ⟨[0,1,2,3,4,6,7,8,9,11,12,13,21,27,28,29],[1],[],[[1,0,0],[0],[0,0,0],[0],[0,0],[0,0,0,0,0],[0,0],[0,0],[0,0],[0,0,0,0,0],[0,0,0],[0],[0,0,0,0],[0,0,0,0,0,0,0,0,0,0,0,0,0,0],[0,0],[0,0,0]],[([0,2,3],[]),([],[]),([],[]),([],[]),([11],[]),([5],[]),([],[]),([4,9,10,11],[]),([1,12],[(true,0)]),([12],[]),([1],[(true,0)]),([],[]),([15],[]),([7,8],[]),([],[]),([6,13,14,15],[])],[]⟩
def ir_ppo_lookl0 : C :=
 .seq (.reg [⟨.bin .lss (.s 10) (.c (.int .i64 3)),none⟩] [] [] [(11,0,none)])
 (.seq (.cond (.s 11) (.skip)
  (.exit 0))
 (.seq (.block 1 (.seq (.seq (.reg [⟨.ixA 3 1 false (.s 9) (.s 10),none⟩,⟨.mv (.r 0),none⟩] [] [] [(5,1,none)])
  (.drop [11] []))
  (.seq (.reg [⟨.mv (.s 4),none⟩,⟨.mv (.s 5),none⟩,⟨.len 1 (.r 1),none⟩,⟨.bin .add (.r 0) (.r 2),none⟩,⟨.mv (.r 3),none⟩] [] [] [(4,4,none)])
  (.drop [5] []))))
 (.reg [⟨.bin .add (.s 10) (.c (.int .i64 1)),none⟩,⟨.mv (.r 0),none⟩] [] [] [(10,1,none)])))
def ir_ppo_lookl1 : C :=
 .seq (.reg [⟨.bin .lss (.s 14) (.c (.int .i64 3)),none⟩] [] [] [(15,0,none)])
 (.seq (.cond (.s 15) (.skip)
  (.exit 2))
 (.seq (.block 3 (.seq (.seq (.reg [⟨.mv (.s 14),none⟩,⟨.ixA 3 1 false (.s 13) (.s 14),none⟩,⟨.mv (.r 0),none⟩,⟨.mv (.r 1),none⟩] [] [] [(7,2,none),(8,3,none)])
  (.drop [15] []))
  (.seq (.reg [⟨.mv (.s 6),none⟩,⟨.mv (.s 7),none⟩,⟨.mv (.s 8),none⟩,⟨.mv (.s 8),none⟩,⟨.call .val n_deps_Address [(.r 3)],none⟩,⟨.mv (.s 8),none⟩,⟨.call .val n_deps_Data [(.r 5)],none⟩,⟨.mv (.s 8),none⟩,⟨.call .val n_deps_Course [(.r 7)],none⟩,⟨.build [.nils,.nilp,.nilp,.nilp] [(0,1,(.r 2)),(1,1,(.r 4)),(2,1,(.r 6)),(3,1,(.r 8))],none⟩,⟨.nilck (.r 0),none⟩,⟨.off 1 (.r 10),none⟩,⟨.iaA 3 4 (.r 11) (.r 1),none⟩,⟨.store 0 4 (.r 12) (.r 9),none⟩] [] [] [])
  (.drop [7,8] []))))
 (.reg [⟨.bin .add (.s 14) (.c (.int .i64 1)),none⟩,⟨.mv (.r 0),none⟩] [] [] [(14,1,none)])))
def ir_ppo_look : Vm.Fn := ⟨[0,1,2,3,4,6,7,8,9,11,12,13,21,27,28,29],1,0,[.slot 2,.slot 3],.seq (.seq (.reg [⟨.lbox 0 5 (.s 0),none⟩,⟨.mv (.c (.nilp)),none⟩,⟨.mv (.c (.bool false)),none⟩] [(true,0)] [] [(1,0,some 1),(2,1,none),(3,2,none)])
 (.drop [0,2,3] []))
 (.seq (.reg [⟨.mv (.c (.int .i64 0)),none⟩] [] [] [(4,0,none)])
 (.seq (.seq (.reg [⟨.off 1 (.s 1),none⟩,⟨.load 0 true 3 (.r 0),none⟩,⟨.mv (.c (.int .i64 0)),none⟩] [] [] [(9,1,none),(10,2,none)])
 (.block 0 (.loop ir_ppo_lookl0)))
 (.seq (.seq (.seq (.reg [⟨.mv (.s 4),none⟩,⟨.bin .gtr (.r 0) (.c (.int .i64 512)),none⟩] [] [] [(12,1,none)])
 (.drop [4,9,10,11] []))
 (.cond (.s 12) (.seq (.seq (.reg [⟨.mv (.c (.nilp)),none⟩,⟨.mv (.c (.bool false)),none⟩] [] [] [(2,0,none),(3,1,none)])
  (.drop [1,12] [(true,0)]))
  (.ret))
  (.skip)))
 (.seq (.seq (.reg [⟨.load 0 true 5 (.s 1),none⟩,⟨.call .val n_cand_Events [(.r 0)],none⟩,⟨.build [.nils,.nils,.nilp,.nilp,.nilp,.nils,.nilp,.nilp,.nilp,.nils,.nilp,.nilp,.nilp] [(0,1,(.r 1))],none⟩,⟨.hbox 13 (.r 2),none⟩,⟨.mv (.r 3),none⟩] [] [] [(6,4,none)])
 (.drop [12] []))
 (.seq (.seq (.seq (.reg [⟨.off 1 (.s 1),none⟩,⟨.load 0 true 3 (.r 0),none⟩,⟨.mv (.c (.int .i64 0)),none⟩] [] [] [(13,1,none),(14,2,none)])
 (.drop [1] [(true,0)]))
 (.block 2 (.loop ir_ppo_lookl1)))
 (.seq (.seq (.reg [⟨.mv (.s 6),none⟩,⟨.mv (.r 0),none⟩,⟨.mv (.c (.bool true)),none⟩] [] [] [(2,1,none),(3,2,none)])
 (.drop [6,13,14,15] []))
 (.ret)))))))⟩
def h41 : Vm.Hint := ⟨[0,2,3,9,12,13,14],[],[],[[0],[0,0,0,0,0,0],[0],[0,0,0],[0,0],[0],[0,0,0,0,0,0,0,0,0,0,1,0,0,0,0],[0,0],[0,0]],[([1],[]),([],[]),([0,3],[]),([3],[]),([],[]),([],[]),([6],[]),([],[]),([0,2,4,5,6],[])],[]⟩
def ir_rel_Newl0 : C :=
 .seq (.reg [⟨.bin .lss (.s 5) (.s 4),none⟩] [] [] [(6,0,none)])
 (.seq (.cond (.s 6) (.skip)
  (.exit 0))
 (.seq (.block 1 (.seq (.reg [⟨.mv (.s 2),none⟩,⟨.mv (.s 2),none⟩,⟨.nilck (.r 1),none⟩,⟨.off 0 (.r 2),none⟩,⟨.load 0 false 1 (.r 3),none⟩,⟨.mv (.s 0),none⟩,⟨.bin .add (.r 5) (.c (.int .i64 64)),none⟩,⟨.bin .sub (.r 6) (.c (.int .i64 1)),none⟩,⟨.bin .quo (.r 7) (.c (.int .i64 64)),none⟩,⟨.mksl [.int .u64 0] 8 (.r 8) (.r 8),none⟩,⟨.lit 1 1 [[.nils]] [(0,(.r 9))],none⟩,⟨.app 0 1 24 (.r 4) (.r 10),none⟩,⟨.nilck (.r 0),none⟩,⟨.off 0 (.r 12),none⟩,⟨.store 0 1 (.r 13) (.r 11),none⟩] [] [(4,9)] [])
  (.drop [6] [])))
 (.reg [⟨.bin .add (.s 5) (.c (.int .i64 1)),none⟩,⟨.mv (.r 0),none⟩] [] [] [(5,1,none)])))
def ir_rel_New : Vm.Fn := ⟨[0,2,3,9,12,13,14],0,0,[.slot 1],.seq (.seq (.reg [⟨.mv (.c (.nilp)),none⟩] [] [] [(1,0,none)])
 (.drop [1] []))
 (.seq (.seq (.reg [⟨.mv (.s 0),none⟩,⟨.bin .lss (.r 0) (.c (.int .i64 0)),none⟩,⟨.mv (.r 1),none⟩,⟨.mv (.s 0),some (2,false)⟩,⟨.bin .gtr (.r 3) (.c (.int .i64 512)),some (2,false)⟩,⟨.pick (.r 2) (.c (.bool true)) (.r 4),none⟩] [] [] [(3,5,none)])
 (.cond (.s 3) (.seq (.seq (.reg [⟨.mv (.c (.nilp)),none⟩] [] [] [(1,0,none)])
  (.drop [0,3] []))
  (.ret))
  (.skip)))
 (.seq (.seq (.reg [⟨.build [.nils] [],none⟩,⟨.hbox 1 (.r 0),none⟩,⟨.mv (.r 1),none⟩] [] [] [(2,2,none)])
 (.drop [3] []))
 (.seq (.seq (.reg [⟨.mv (.s 0),none⟩,⟨.mv (.c (.int .i64 0)),none⟩] [] [] [(4,0,none),(5,1,none)])
 (.block 0 (.loop ir_rel_Newl0)))
 (.seq (.seq (.reg [⟨.mv (.s 2),none⟩,⟨.mv (.r 0),none⟩] [] [] [(1,1,none)])
 (.drop [0,2,4,5,6] []))
 (.ret)))))⟩
def h42 : Vm.Hint := ⟨[0],[0],[],[[1],[0,0,0,0,0,0,0,0,0,0,0,0,0,0,0]],[([],[]),([],[])],[]⟩
def ir_ppo_rules : Vm.Fn := ⟨[0],1,0,[.cell 0 true 13],.seq (.reg [⟨.lalloc 0 [.nilf,.nilf,.nilf,.nilf,.nilf,.nilf,.nilf,.nilf,.nilf,.nilf,.nilf,.nilf,.nilf],none⟩] [(true,0)] [] [(0,0,some 1)])
 (.seq (.reg [⟨.build [.nilf] [(0,1,(.c (.fn 76 [] [])))],none⟩,⟨.build [.nilf] [(0,1,(.c (.fn 77 [] [])))],none⟩,⟨.build [.nilf] [(0,1,(.c (.fn 78 [] [])))],none⟩,⟨.build [.nilf] [(0,1,(.c (.fn 79 [] [])))],none⟩,⟨.build [.nilf] [(0,1,(.c (.fn 80 [] [])))],none⟩,⟨.build [.nilf] [(0,1,(.c (.fn 81 [] [])))],none⟩,⟨.build [.nilf] [(0,1,(.c (.fn 82 [] [])))],none⟩,⟨.build [.nilf] [(0,1,(.c (.fn 84 [] [])))],none⟩,⟨.build [.nilf] [(0,1,(.c (.fn 85 [] [])))],none⟩,⟨.build [.nilf] [(0,1,(.c (.fn 88 [] [])))],none⟩,⟨.build [.nilf] [(0,1,(.c (.fn 90 [] [])))],none⟩,⟨.build [.nilf] [(0,1,(.c (.fn 92 [] [])))],none⟩,⟨.build [.nilf] [(0,1,(.c (.fn 93 [] [])))],none⟩,⟨.build [.nilf,.nilf,.nilf,.nilf,.nilf,.nilf,.nilf,.nilf,.nilf,.nilf,.nilf,.nilf,.nilf] [(0,1,(.r 0)),(1,1,(.r 1)),(2,1,(.r 2)),(3,1,(.r 3)),(4,1,(.r 4)),(5,1,(.r 5)),(6,1,(.r 6)),(7,1,(.r 7)),(8,1,(.r 8)),(9,1,(.r 9)),(10,1,(.r 10)),(11,1,(.r 11)),(12,1,(.r 12))],none⟩,⟨.store 0 13 (.s 0) (.r 13),none⟩] [] [] [])
 (.ret))⟩
def h43 : Vm.Hint := ⟨[0,1,2,6,7,12,13,14,43,50],[],[],[[0,0,0,0,0,0],[0],[0,0],[0,0,0],[0,0,0,0,0,0,0,0,0,0,0,0,0,0,0,0,0,0,0,0,0,0,0,0,0,0],[0,0,0],[0,0,0,0,0],[0,0,0,1],[0,0]],[([],[]),([],[]),([7],[]),([],[]),([],[]),([9],[]),([8],[]),([9],[]),([3,4,8],[])],[]⟩
def ir_ppo_view_intol0 : C :=
 .seq (.seq (.reg [⟨.mv (.s 4),none⟩,⟨.mv (.s 0),none⟩,⟨.nilck (.r 1),none⟩,⟨.off 0 (.r 2),none⟩,⟨.load 0 false 1 (.r 3),none⟩,⟨.len 1 (.r 4),none⟩,⟨.bin .lss (.r 0) (.r 5),none⟩,⟨.mv (.r 6),none⟩,⟨.mv (.s 0),some (7,true)⟩,⟨.nilck (.r 8),some (7,true)⟩,⟨.off 0 (.r 9),some (7,true)⟩,⟨.load 0 false 1 (.r 10),some (7,true)⟩,⟨.mv (.s 4),some (7,true)⟩,⟨.iaS 33 (.r 11) (.r 12),some (7,true)⟩,⟨.off 0 (.r 13),some (7,true)⟩,⟨.load 0 false 1 (.r 14),some (7,true)⟩,⟨.mv (.s 0),some (7,true)⟩,⟨.nilck (.r 16),some (7,true)⟩,⟨.off 0 (.r 17),some (7,true)⟩,⟨.load 0 false 1 (.r 18),some (7,true)⟩,⟨.mv (.s 3),some (7,true)⟩,⟨.iaS 33 (.r 19) (.r 20),some (7,true)⟩,⟨.off 0 (.r 21),some (7,true)⟩,⟨.load 0 false 1 (.r 22),some (7,true)⟩,⟨.bin .eql (.r 15) (.r 23),some (7,true)⟩,⟨.pick (.r 7) (.r 24) (.c (.bool false)),none⟩] [] [(11,19),(11,21),(11,23),(13,19),(13,21),(13,23),(15,19),(15,21),(15,23)] [(8,25,none)])
 (.cond (.s 8) (.skip)
  (.exit 2)))
 (.seq (.block 3 (.seq (.seq (.reg [⟨.mv (.s 2),none⟩,⟨.mv (.s 0),none⟩,⟨.mv (.s 3),none⟩,⟨.mv (.s 4),none⟩,⟨.callv .val (.r 0) [(.r 1),(.r 2),(.r 3)],none⟩] [] [] [(9,4,none)])
  (.drop [8] []))
  (.cond (.s 9) (.seq (.reg [⟨.mv (.s 1),none⟩,⟨.mv (.s 3),none⟩,⟨.mv (.s 4),none⟩,⟨.call .heap n_rel_Rel_Add [(.r 0),(.r 1),(.r 2)],none⟩] [] [] [])
   (.drop [9] []))
   (.skip))))
 (.seq (.reg [⟨.mv (.s 4),none⟩,⟨.bin .add (.r 0) (.c (.int .i64 1)),none⟩,⟨.mv (.r 1),none⟩] [] [] [(4,2,none)])
 (.drop [9] [])))
def ir_ppo_view_intol1 : C :=
 .seq (.reg [⟨.bin .lss (.s 6) (.s 5),none⟩] [] [] [(7,0,none)])
 (.seq (.cond (.s 7) (.skip)
  (.exit 0))
 (.seq (.block 1 (.seq (.seq (.reg [⟨.mv (.s 6),none⟩,⟨.mv (.r 0),none⟩] [] [] [(3,1,none)])
  (.drop [7] []))
  (.seq (.reg [⟨.mv (.s 3),none⟩,⟨.bin .add (.r 0) (.c (.int .i64 1)),none⟩,⟨.mv (.r 1),none⟩] [] [] [(4,2,none)])
  (.block 2 (.loop ir_ppo_view_intol0)))))
 (.seq (.reg [⟨.bin .add (.s 6) (.c (.int .i64 1)),none⟩,⟨.mv (.r 0),none⟩] [] [] [(6,1,none)])
 (.drop [3,4,8] []))))
def ir_ppo_view_into : Vm.Fn := ⟨[0,1,2,6,7,12,13,14,43,50],0,0,[],.seq (.reg [⟨.mv (.s 0),none⟩,⟨.nilck (.r 0),none⟩,⟨.off 0 (.r 1),none⟩,⟨.load 0 false 1 (.r 2),none⟩,⟨.len 1 (.r 3),none⟩,⟨.mv (.c (.int .i64 0)),none⟩] [] [] [(5,4,none),(6,5,none)])
 (.block 0 (.loop ir_ppo_view_intol1))⟩
def h44 : Vm.Hint := ⟨[0,1,2,6,8],[],[],[[0],[0,0,0,0,0,0,0,0,0,0,0,0,0,0],[0,0]],[([3],[]),([0,1,2],[]),([4],[])],[]⟩
def ir_gmo_view_stores : Vm.Fn := ⟨[0,1,2,6,8],0,0,[.slot 3],.seq (.seq (.reg [⟨.mv (.c (.bool false)),none⟩] [] [] [(3,0,none)])
 (.drop [3] []))
 (.seq (.seq (.reg [⟨.mv (.s 0),none⟩,⟨.nilck (.r 0),none⟩,⟨.off 5 (.r 1),none⟩,⟨.load 0 false 1 (.r 2),none⟩,⟨.mv (.s 1),none⟩,⟨.iaS 33 (.r 3) (.r 4),none⟩,⟨.load 0 true 33 (.r 5),none⟩,⟨.mv (.s 2),none⟩,⟨.call .val n_cand_Byte [(.r 6),(.r 7)],none⟩,⟨.mv (.r 8),none⟩,⟨.ext (.r 9) 0,none⟩,⟨.ext (.r 9) 1,none⟩,⟨.mv (.r 10),none⟩,⟨.mv (.r 11),none⟩] [] [] [(4,13,none)])
 (.drop [0,1,2] []))
 (.seq (.seq (.reg [⟨.mv (.s 4),none⟩,⟨.mv (.r 0),none⟩] [] [] [(3,1,none)])
 (.drop [4] []))
 (.ret)))⟩
def h45 : Vm.Hint := ⟨[0,1,2,6],[],[],[[0],[0,0,0,0,0,0,0,0,0,0,0,0,0,0,0,0,0,0,0,0,0,0,0,0,0,0,0,0,0,0,0,0,0,0,0,0,0]],[([3],[]),([0,1,2],[])],[]⟩
def ir_gmo_view_ahead : Vm.Fn := ⟨[0,1,2,6],0,0,[.slot 3],.seq (.seq (.reg [⟨.mv (.c (.bool false)),none⟩] [] [] [(3,0,none)])
 (.drop [3] []))
 (.seq (.seq (.reg [⟨.mv (.s 0),none⟩,⟨.nilck (.r 0),none⟩,⟨.off 5 (.r 1),none⟩,⟨.load 0 false 1 (.r 2),none⟩,⟨.mv (.s 1),none⟩,⟨.iaS 33 (.r 3) (.r 4),none⟩,⟨.off 0 (.r 5),none⟩,⟨.load 0 false 1 (.r 6),none⟩,⟨.mv (.s 0),none⟩,⟨.nilck (.r 8),none⟩,⟨.off 5 (.r 9),none⟩,⟨.load 0 false 1 (.r 10),none⟩,⟨.mv (.s 2),none⟩,⟨.iaS 33 (.r 11) (.r 12),none⟩,⟨.off 0 (.r 13),none⟩,⟨.load 0 false 1 (.r 14),none⟩,⟨.bin .eql (.r 7) (.r 15),none⟩,⟨.mv (.r 16),none⟩,⟨.mv (.s 0),some (17,true)⟩,⟨.nilck (.r 18),some (17,true)⟩,⟨.off 5 (.r 19),some (17,true)⟩,⟨.load 0 false 1 (.r 20),some (17,true)⟩,⟨.mv (.s 1),some (17,true)⟩,⟨.iaS 33 (.r 21) (.r 22),some (17,true)⟩,⟨.off 1 (.r 23),some (17,true)⟩,⟨.load 0 false 1 (.r 24),some (17,true)⟩,⟨.mv (.s 0),some (17,true)⟩,⟨.nilck (.r 26),some (17,true)⟩,⟨.off 5 (.r 27),some (17,true)⟩,⟨.load 0 false 1 (.r 28),some (17,true)⟩,⟨.mv (.s 2),some (17,true)⟩,⟨.iaS 33 (.r 29) (.r 30),some (17,true)⟩,⟨.off 1 (.r 31),some (17,true)⟩,⟨.load 0 false 1 (.r 32),some (17,true)⟩,⟨.bin .lss (.r 25) (.r 33),some (17,true)⟩,⟨.pick (.r 17) (.r 34) (.c (.bool false)),none⟩,⟨.mv (.r 35),none⟩] [] [(3,11),(3,13),(3,15),(5,11),(5,13),(5,15),(7,11),(7,13),(7,15),(21,29),(21,31),(21,33),(23,29),(23,31),(23,33),(25,29),(25,31),(25,33)] [(3,36,none)])
 (.drop [0,1,2] []))
 (.ret))⟩
def h46 : Vm.Hint := ⟨[0,1,4,5,7],[],[],[[0,0],[0,0],[0,0],[0,0,0,0,0,0,0,0]],[([2,3],[]),([],[]),([0,1,4],[]),([0,1,4],[])],[]⟩
def ir_gmo_view_named : Vm.Fn := ⟨[0,1,4,5,7],0,0,[.slot 2,.slot 3],.seq (.seq (.reg [⟨.mv (.c (.int .i64 0)),none⟩,⟨.mv (.c (.bool false)),none⟩] [] [] [(2,0,none),(3,1,none)])
 (.drop [2,3] []))
 (.seq (.seq (.reg [⟨.mv (.s 1),none⟩,⟨.bin .eql (.r 0) (.c (.int .i64 (-1))),none⟩] [] [] [(4,1,none)])
 (.cond (.s 4) (.seq (.seq (.reg [⟨.mv (.c (.int .i64 0)),none⟩,⟨.mv (.c (.bool false)),none⟩] [] [] [(2,0,none),(3,1,none)])
  (.drop [0,1,4] []))
  (.ret))
  (.skip)))
 (.seq (.seq (.reg [⟨.mv (.s 0),none⟩,⟨.nilck (.r 0),none⟩,⟨.off 6 (.r 1),none⟩,⟨.load 0 false 1 (.r 2),none⟩,⟨.mv (.s 1),none⟩,⟨.look false false [.int .i64 0] (.r 3) (.r 4),none⟩,⟨.mv (.r 5),none⟩,⟨.mv (.c (.bool true)),none⟩] [] [] [(2,6,none),(3,7,none)])
 (.drop [0,1,4] []))
 (.ret)))⟩
def h47 : Vm.Hint := ⟨[0,1,4,5,18],[],[],[[0,0],[0,0,0,0,0,0,0,0,0,0,0,0,0],[0,0],[0,0,0,0,0,0,0,0,0,0,0,0,0,0,0,0]],[([2,3],[]),([],[]),([0,1,4],[]),([0,1,4],[])],[]⟩
def ir_gmo_view_pair : Vm.Fn := ⟨[0,1,4,5,18],0,0,[.slot 2,.slot 3],.seq (.seq (.reg [⟨.mv (.c (.int .i64 0)),none⟩,⟨.mv (.c (.bool false)),none⟩] [] [] [(2,0,none),(3,1,none)])
 (.drop [2,3] []))
 (.seq (.seq (.reg [⟨.mv (.s 0),none⟩,⟨.nilck (.r 0),none⟩,⟨.off 5 (.r 1),none⟩,⟨.load 0 false 1 (.r 2),none⟩,⟨.mv (.s 1),none⟩,⟨.iaS 33 (.r 3) (.r 4),none⟩,⟨.off 2 (.r 5),none⟩,⟨.off 0 (.r 6),none⟩,⟨.off 1 (.r 7),none⟩,⟨.off 0 (.r 8),none⟩,⟨.load 0 false 1 (.r 9),none⟩,⟨.call .val n_ops_Sort [(.r 10)],none⟩,⟨.bin .neq (.r 11) (.c (.int .i64 11)),none⟩] [] [] [(4,12,none)])
 (.cond (.s 4) (.seq (.seq (.reg [⟨.mv (.c (.int .i64 0)),none⟩,⟨.mv (.c (.bool false)),none⟩] [] [] [(2,0,none),(3,1,none)])
  (.drop [0,1,4] []))
  (.ret))
  (.skip)))
 (.seq (.seq (.reg [⟨.mv (.s 0),none⟩,⟨.nilck (.r 0),none⟩,⟨.off 6 (.r 1),none⟩,⟨.load 0 false 1 (.r 2),none⟩,⟨.mv (.s 0),none⟩,⟨.nilck (.r 4),none⟩,⟨.off 5 (.r 5),none⟩,⟨.load 0 false 1 (.r 6),none⟩,⟨.mv (.s 1),none⟩,⟨.iaS 33 (.r 7) (.r 8),none⟩,⟨.off 2 (.r 9),none⟩,⟨.off 26 (.r 10),none⟩,⟨.load 0 false 1 (.r 11),none⟩,⟨.look false false [.int .i64 0] (.r 3) (.r 12),none⟩,⟨.mv (.r 13),none⟩,⟨.mv (.c (.bool true)),none⟩] [] [(3,7),(3,9),(3,12)] [(2,14,none),(3,15,none)])
 (.drop [0,1,4] []))
 (.ret)))⟩
def h56 : Vm.Hint := ⟨[0,1,2,6,7,8,9,10,12,39,58,59,60,61,72],[],[],[[0],[0,0,0,0,0,0,0,0,0,0,0],[0],[0,0,0,0,0,0,0,0,0,0,0,0,1,0,0,0,0,0],[0],[0,0,0,0,0,0,0,0,0,0],[0,0,0,0,0,0,0,0,0,0,0,0],[0],[0,0,0],[0,0,0,0,0,0,0,0,1],[0],[0,0],[0]],[([3],[]),([],[]),([],[]),([2],[]),([7],[]),([6,9],[]),([4,5,6,9],[]),([],[]),([13],[]),([8],[]),([0,1,10,11,12,14],[]),([14],[]),([0,1,10,11,12,13],[])],[]⟩
def ir_gmo_view_stalel0 : C :=
 .seq (.reg [⟨.bin .lss (.s 12) (.s 11),none⟩] [] [] [(13,0,none)])
 (.seq (.cond (.s 13) (.skip)
  (.exit 0))
 (.seq (.block 1 (.seq (.seq (.reg [⟨.iaS 1 (.s 10) (.s 12),none⟩,⟨.load 0 false 1 (.r 0),none⟩,⟨.mv (.r 1),none⟩] [] [] [(8,2,none)])
  (.drop [13] []))
  (.seq (.seq (.reg [⟨.mv (.s 0),none⟩,⟨.mv (.s 0),none⟩,⟨.nilck (.r 1),none⟩,⟨.off 6 (.r 2),none⟩,⟨.load 0 false 1 (.r 3),none⟩,⟨.mv (.s 8),none⟩,⟨.look false false [.int .i64 0] (.r 4) (.r 5),none⟩,⟨.mv (.s 1),none⟩,⟨.call .heap n_gmo_view_ahead [(.r 0),(.r 6),(.r 7)],none⟩] [] [] [(14,8,none)])
  (.drop [8] []))
  (.cond (.s 14) (.seq (.seq (.reg [⟨.mv (.c (.bool true)),none⟩] [] [] [(3,0,none)])
   (.drop [0,1,10,11,12,14] []))
   (.ret))
   (.skip)))))
 (.seq (.reg [⟨.bin .add (.s 12) (.c (.int .i64 1)),none⟩,⟨.mv (.r 0),none⟩] [] [] [(12,1,none)])
 (.drop [14] []))))
def ir_gmo_view_stale : Vm.Fn := ⟨[0,1,2,6,7,8,9,10,12,39,58,59,60,61,72],0,0,[.slot 3],.seq (.seq (.reg [⟨.mv (.c (.bool false)),none⟩] [] [] [(3,0,none)])
 (.drop [3] []))
 (.seq (.reg [⟨.mv (.s 0),none⟩,⟨.nilck (.r 0),none⟩,⟨.off 5 (.r 1),none⟩,⟨.load 0 false 1 (.r 2),none⟩,⟨.mv (.s 1),none⟩,⟨.iaS 33 (.r 3) (.r 4),none⟩,⟨.off 31 (.r 5),none⟩,⟨.load 0 false 1 (.r 6),none⟩,⟨.mv (.s 2),none⟩,⟨.bin .add (.r 7) (.r 8),none⟩,⟨.mv (.r 9),none⟩] [] [] [(4,10,none)])
 (.seq (.reg [⟨.mv (.c (.int .i64 0)),none⟩] [] [] [(5,0,none)])
 (.seq (.seq (.seq (.reg [⟨.mv (.s 0),none⟩,⟨.mv (.s 0),none⟩,⟨.nilck (.r 1),none⟩,⟨.off 5 (.r 2),none⟩,⟨.load 0 false 1 (.r 3),none⟩,⟨.mv (.s 1),none⟩,⟨.mv (.s 2),none⟩,⟨.iaS 33 (.r 4) (.r 5),none⟩,⟨.off 2 (.r 7),none⟩,⟨.off 18 (.r 8),none⟩,⟨.iaA 8 1 (.r 9) (.r 6),none⟩,⟨.load 0 false 1 (.r 10),none⟩,⟨.call .heap n_gmo_view_named [(.r 0),(.r 11)],none⟩,⟨.mv (.r 12),none⟩,⟨.ext (.r 13) 0,none⟩,⟨.ext (.r 13) 1,none⟩,⟨.mv (.r 14),none⟩,⟨.mv (.r 15),none⟩] [] [] [(6,16,none),(7,17,none)])
 (.drop [2] []))
 (.seq (.seq (.reg [⟨.mv (.s 7),none⟩] [] [] [(9,0,none)])
 (.drop [7] []))
 (.cond (.s 9) (.seq (.reg [⟨.mv (.s 0),none⟩,⟨.nilck (.r 0),none⟩,⟨.off 7 (.r 1),none⟩,⟨.load 0 false 1 (.r 2),none⟩,⟨.mv (.s 4),none⟩,⟨.iaS 1 (.r 3) (.r 4),none⟩,⟨.load 0 false 1 (.r 5),none⟩,⟨.mv (.s 6),none⟩,⟨.look false false [.int .i64 0] (.r 6) (.r 7),none⟩,⟨.mv (.r 8),none⟩] [] [] [(5,9,none)])
  (.drop [6,9] []))
  (.skip))))
 (.seq (.seq (.seq (.reg [⟨.mv (.s 0),none⟩,⟨.nilck (.r 0),none⟩,⟨.off 0 (.r 1),none⟩,⟨.off 4 (.r 2),none⟩,⟨.load 0 false 1 (.r 3),none⟩,⟨.mv (.s 4),none⟩,⟨.iaS 1 (.r 4) (.r 5),none⟩,⟨.load 0 false 1 (.r 6),none⟩,⟨.mv (.s 5),none⟩,⟨.slc 1 (.r 7) (some (.r 8)) none none,none⟩,⟨.len 1 (.r 9),none⟩,⟨.mv (.c (.int .i64 0)),none⟩] [] [] [(10,9,none),(11,10,none),(12,11,none)])
 (.drop [4,5,6,9] []))
 (.block 0 (.loop ir_gmo_view_stalel0)))
 (.seq (.seq (.reg [⟨.mv (.c (.bool false)),none⟩] [] [] [(3,0,none)])
 (.drop [0,1,10,11,12,13] []))
 (.ret))))))⟩
def h57 : Vm.Hint := ⟨[0,1,2,5],[],[],[[0],[0,0,0,0,0,0,0,0,0,0]],[([3],[]),([0,1],[])],[]⟩
def ir_gmo_view_may_1 : Vm.Fn := ⟨[0,1,2,5],0,0,[.slot 3],.seq (.seq (.reg [⟨.mv (.c (.int .i64 0)),none⟩] [] [] [(3,0,none)])
 (.drop [3] []))
 (.seq (.seq (.reg [⟨.load 0 false 1 (.s 2),none⟩,⟨.nilck (.r 0),none⟩,⟨.off 7 (.r 1),none⟩,⟨.load 0 false 1 (.r 2),none⟩,⟨.mv (.s 0),none⟩,⟨.iaS 1 (.r 3) (.r 4),none⟩,⟨.load 0 false 1 (.r 5),none⟩,⟨.mv (.s 1),none⟩,⟨.look false false [.int .i64 0] (.r 6) (.r 7),none⟩,⟨.mv (.r 8),none⟩] [] [] [(3,9,none)])
 (.drop [0,1] []))
 (.ret))⟩
def h58 : Vm.Hint := ⟨[0,1,2,6,16],[],[],[[0],[0,0,0,0,0,0,0,0,0,0],[0],[0,0,0,0,0,0,0,0,1],[0]],[([3],[]),([],[]),([0,1,2,4],[]),([0,1,2,4],[]),([],[])],[]⟩
def ir_rel_Rel_Add : Vm.Fn := ⟨[0,1,2,6,16],0,0,[.slot 3],.seq (.seq (.reg [⟨.mv (.c (.bool false)),none⟩] [] [] [(3,0,none)])
 (.drop [3] []))
 (.seq (.seq (.reg [⟨.mv (.s 0),none⟩,⟨.mv (.s 1),none⟩,⟨.call .val n_rel_Rel_is [(.r 0),(.r 1)],none⟩,⟨.un .not (.r 2),none⟩,⟨.mv (.r 3),none⟩,⟨.mv (.s 0),some (4,false)⟩,⟨.mv (.s 2),some (4,false)⟩,⟨.call .val n_rel_Rel_is [(.r 5),(.r 6)],some (4,false)⟩,⟨.un .not (.r 7),some (4,false)⟩,⟨.pick (.r 4) (.c (.bool true)) (.r 8),none⟩] [] [] [(4,9,none)])
 (.cond (.s 4) (.seq (.seq (.reg [⟨.mv (.c (.bool false)),none⟩] [] [] [(3,0,none)])
  (.drop [0,1,2,4] []))
  (.ret))
  (.skip)))
 (.seq (.seq (.reg [⟨.mv (.s 0),none⟩,⟨.nilck (.r 0),none⟩,⟨.off 0 (.r 1),none⟩,⟨.load 0 false 1 (.r 2),none⟩,⟨.mv (.s 1),none⟩,⟨.iaS 1 (.r 3) (.r 4),none⟩,⟨.load 0 false 1 (.r 5),none⟩,⟨.mv (.s 2),none⟩,⟨.call .heap n_rel_row_add [(.r 6),(.r 7)],none⟩] [] [] [])
 (.drop [0,1,2,4] []))
 (.seq (.reg [⟨.mv (.c (.bool true)),none⟩] [] [] [(3,0,none)])
 (.ret))))⟩
def h59 : Vm.Hint := ⟨[0,1,2,3,8,9,10,11,13,14,41,55,69,70,71,72,83],[],[],[[0,0,0,0,0,0,0,0,0,0,0],[0],[0,0,0,0,0,0,0,0,0,0,0,0,1,0,0,0,0,0],[0],[0,0,0,0,0,0,0,0,0,0],[0,0,0,1,0],[0,0,0,1],[0,0,0,0,0,0,0,0,0,0,0,0],[0],[0,0,0],[0,0,0,0,0,0,0],[0,0,0],[0,0,0,1],[0,0]],[([],[]),([],[]),([3],[]),([7],[]),([10],[]),([],[]),([6,11],[]),([4,5,6,10,11],[]),([],[]),([15],[]),([8],[]),([],[]),([9,16],[]),([9,16],[])],[]⟩
def ir_gmo_view_readl0 : C :=
 .seq (.reg [⟨.bin .lss (.s 14) (.s 13),none⟩] [] [] [(15,0,none)])
 (.seq (.cond (.s 15) (.skip)
  (.exit 0))
 (.seq (.block 1 (.seq (.seq (.reg [⟨.iaS 1 (.s 12) (.s 14),none⟩,⟨.load 0 false 1 (.r 0),none⟩,⟨.mv (.r 1),none⟩] [] [] [(8,2,none)])
  (.drop [15] []))
  (.seq (.seq (.reg [⟨.mv (.s 0),none⟩,⟨.nilck (.r 0),none⟩,⟨.off 6 (.r 1),none⟩,⟨.load 0 false 1 (.r 2),none⟩,⟨.mv (.s 8),none⟩,⟨.look false false [.int .i64 0] (.r 3) (.r 4),none⟩,⟨.mv (.r 5),none⟩] [] [] [(9,6,none)])
  (.drop [8] []))
  (.seq (.reg [⟨.mv (.s 9),none⟩,⟨.mv (.s 2),none⟩,⟨.bin .neq (.r 0) (.r 1),none⟩] [] [] [(16,2,none)])
  (.cond (.s 16) (.seq (.reg [⟨.mv (.s 1),none⟩,⟨.mv (.s 2),none⟩,⟨.mv (.s 9),none⟩,⟨.call .heap n_rel_Rel_Add [(.r 0),(.r 1),(.r 2)],none⟩] [] [] [])
   (.drop [9,16] []))
   (.skip))))))
 (.seq (.reg [⟨.bin .add (.s 14) (.c (.int .i64 1)),none⟩,⟨.mv (.r 0),none⟩] [] [] [(14,1,none)])
 (.drop [9,16] []))))
def ir_gmo_view_read : Vm.Fn := ⟨[0,1,2,3,8,9,10,11,13,14,41,55,69,70,71,72,83],0,0,[],.seq (.reg [⟨.mv (.s 0),none⟩,⟨.nilck (.r 0),none⟩,⟨.off 5 (.r 1),none⟩,⟨.load 0 false 1 (.r 2),none⟩,⟨.mv (.s 2),none⟩,⟨.iaS 33 (.r 3) (.r 4),none⟩,⟨.off 31 (.r 5),none⟩,⟨.load 0 false 1 (.r 6),none⟩,⟨.mv (.s 3),none⟩,⟨.bin .add (.r 7) (.r 8),none⟩,⟨.mv (.r 9),none⟩] [] [] [(4,10,none)])
 (.seq (.reg [⟨.mv (.c (.int .i64 0)),none⟩] [] [] [(5,0,none)])
 (.seq (.seq (.seq (.reg [⟨.mv (.s 0),none⟩,⟨.mv (.s 0),none⟩,⟨.nilck (.r 1),none⟩,⟨.off 5 (.r 2),none⟩,⟨.load 0 false 1 (.r 3),none⟩,⟨.mv (.s 2),none⟩,⟨.mv (.s 3),none⟩,⟨.iaS 33 (.r 4) (.r 5),none⟩,⟨.off 2 (.r 7),none⟩,⟨.off 18 (.r 8),none⟩,⟨.iaA 8 1 (.r 9) (.r 6),none⟩,⟨.load 0 false 1 (.r 10),none⟩,⟨.call .heap n_gmo_view_named [(.r 0),(.r 11)],none⟩,⟨.mv (.r 12),none⟩,⟨.ext (.r 13) 0,none⟩,⟨.ext (.r 13) 1,none⟩,⟨.mv (.r 14),none⟩,⟨.mv (.r 15),none⟩] [] [] [(6,16,none),(7,17,none)])
 (.drop [3] []))
 (.seq (.seq (.reg [⟨.mv (.s 7),none⟩] [] [] [(10,0,none)])
 (.drop [7] []))
 (.cond (.s 10) (.seq (.seq (.reg [⟨.mv (.s 0),none⟩,⟨.nilck (.r 0),none⟩,⟨.off 7 (.r 1),none⟩,⟨.load 0 false 1 (.r 2),none⟩,⟨.mv (.s 4),none⟩,⟨.iaS 1 (.r 3) (.r 4),none⟩,⟨.load 0 false 1 (.r 5),none⟩,⟨.mv (.s 6),none⟩,⟨.look false false [.int .i64 0] (.r 6) (.r 7),none⟩,⟨.mv (.r 8),none⟩] [] [] [(5,9,none)])
  (.drop [10] []))
  (.seq (.reg [⟨.mv (.s 0),none⟩,⟨.mv (.s 6),none⟩,⟨.mv (.s 2),none⟩,⟨.call .heap n_gmo_view_ahead [(.r 0),(.r 1),(.r 2)],none⟩,⟨.un .not (.r 3),none⟩] [] [] [(11,4,none)])
  (.cond (.s 11) (.seq (.reg [⟨.mv (.s 1),none⟩,⟨.mv (.s 6),none⟩,⟨.mv (.s 2),none⟩,⟨.call .heap n_rel_Rel_Add [(.r 0),(.r 1),(.r 2)],none⟩] [] [] [])
   (.drop [6,11] []))
   (.skip))))
  (.skip))))
 (.seq (.seq (.reg [⟨.mv (.s 0),none⟩,⟨.nilck (.r 0),none⟩,⟨.off 0 (.r 1),none⟩,⟨.off 4 (.r 2),none⟩,⟨.load 0 false 1 (.r 3),none⟩,⟨.mv (.s 4),none⟩,⟨.iaS 1 (.r 4) (.r 5),none⟩,⟨.load 0 false 1 (.r 6),none⟩,⟨.mv (.s 5),none⟩,⟨.slc 1 (.r 7) (some (.r 8)) none none,none⟩,⟨.len 1 (.r 9),none⟩,⟨.mv (.c (.int .i64 0)),none⟩] [] [] [(12,9,none),(13,10,none),(14,11,none)])
 (.drop [4,5,6,10,11] []))
 (.block 0 (.loop ir_gmo_view_readl0)))))⟩
def h60 : Vm.Hint := ⟨[0,2,3,4,5,6,7,8,9,14],[],[3],[[0],[1],[0,0,0],[0],[0,0,0,0,0],[0,0],[0,0,0,0,0],[0,0,0,0,0,0,1,2,0],[0,0],[0,0]],[([1],[]),([],[]),([0],[]),([],[]),([8],[]),([],[]),([],[]),([9],[]),([3,4,9],[]),([2,5,6,7,8],[(false,0)])],[]⟩
def ir_rel_row_eachl0 : C :=
 .seq (.seq (.reg [⟨.mv (.s 4),none⟩,⟨.bin .neq (.r 0) (.c (.int .u64 0)),none⟩] [] [] [(9,1,none)])
 (.cond (.s 9) (.skip)
  (.exit 2)))
 (.seq (.block 3 (.seq (.reg [⟨.mv (.s 2),none⟩,⟨.mv (.s 3),none⟩,⟨.bin .mul (.r 1) (.c (.int .i64 64)),none⟩,⟨.mv (.s 4),none⟩,⟨.call .val n_math_bits_TrailingZeros64 [(.r 3)],none⟩,⟨.bin .add (.r 2) (.r 4),none⟩,⟨.lit 1 1 [[.int .i64 0]] [(0,(.r 5))],none⟩,⟨.app 2 1 8 (.r 0) (.r 6),none⟩,⟨.mv (.r 7),none⟩] [] [] [(2,8,some 0)])
  (.drop [9] [])))
 (.reg [⟨.mv (.s 4),none⟩,⟨.mv (.s 4),none⟩,⟨.bin .sub (.r 1) (.c (.int .u64 1)),none⟩,⟨.bin .and (.r 0) (.r 2),none⟩,⟨.mv (.r 3),none⟩] [] [] [(4,4,none)]))
def ir_rel_row_eachl1 : C :=
 .seq (.reg [⟨.bin .lss (.s 7) (.s 6),none⟩] [] [] [(8,0,none)])
 (.seq (.cond (.s 8) (.skip)
  (.exit 0))
 (.seq (.block 1 (.seq (.seq (.reg [⟨.mv (.s 7),none⟩,⟨.iaS 1 (.s 5) (.s 7),none⟩,⟨.load 0 false 1 (.r 1),none⟩,⟨.mv (.r 0),none⟩,⟨.mv (.r 2),none⟩] [] [] [(3,3,none),(4,4,none)])
  (.drop [8] []))
  (.block 2 (.loop ir_rel_row_eachl0))))
 (.seq (.reg [⟨.bin .add (.s 7) (.c (.int .i64 1)),none⟩,⟨.mv (.r 0),none⟩] [] [] [(7,1,none)])
 (.drop [3,4,9] []))))
def ir_rel_row_each : Vm.Fn := ⟨[0,2,3,4,5,6,7,8,9,14],0,1,[.slot 1],.seq (.seq (.reg [⟨.mv (.c (.nils)),none⟩] [] [] [(1,0,none)])
 (.drop [1] []))
 (.seq (.reg [⟨.onil 0,none⟩] [(false,0)] [] [(2,0,some 0)])
 (.seq (.seq (.seq (.reg [⟨.mv (.s 0),none⟩,⟨.len 1 (.r 0),none⟩,⟨.mv (.c (.int .i64 0)),none⟩] [] [] [(5,0,none),(6,1,none),(7,2,none)])
 (.drop [0] []))
 (.block 0 (.loop ir_rel_row_eachl1)))
 (.seq (.seq (.reg [⟨.mv (.s 2),none⟩,⟨.mv (.r 0),none⟩] [] [] [(1,1,none)])
 (.drop [2,5,6,7,8] [(false,0)]))
 (.ret))))⟩
def h61 : Vm.Hint := ⟨[0,1,2],[1],[],[[1,0],[0,0,0,0,0,0,0,0,0,0,0,0,0,0,0,0,0,0,0,0,0,0,0,0,0,0]],[([0,2],[]),([1],[(true,0)])],[]⟩
def ir_cand_isEvent : Vm.Fn := ⟨[0,1,2],1,0,[.slot 2],.seq (.seq (.reg [⟨.lbox 0 27 (.s 0),none⟩,⟨.mv (.c (.bool false)),none⟩] [(true,0)] [] [(1,0,some 1),(2,1,none)])
 (.drop [0,2] []))
 (.seq (.seq (.reg [⟨.off 0 (.s 1),none⟩,⟨.off 10 (.r 0),none⟩,⟨.load 0 false 1 (.r 1),none⟩,⟨.bin .eql (.r 2) (.c (.int .i64 0)),none⟩,⟨.mv (.r 3),none⟩,⟨.off 0 (.s 1),some (4,true)⟩,⟨.off 1 (.r 5),some (4,true)⟩,⟨.off 0 (.r 6),some (4,true)⟩,⟨.load 0 false 1 (.r 7),some (4,true)⟩,⟨.call .val n_ops_Memory [(.r 8)],some (4,true)⟩,⟨.pick (.r 4) (.r 9) (.c (.bool false)),none⟩,⟨.mv (.r 10),none⟩,⟨.off 0 (.s 1),some (11,true)⟩,⟨.off 1 (.r 12),some (11,true)⟩,⟨.off 0 (.r 13),some (11,true)⟩,⟨.load 0 false 1 (.r 14),some (11,true)⟩,⟨.call .val n_ops_Sort [(.r 15)],some (11,true)⟩,⟨.bin .neq (.r 16) (.c (.int .i64 11)),some (11,true)⟩,⟨.mv (.r 17),some (11,true)⟩,⟨.off 0 (.s 1),some (18,false)⟩,⟨.off 15 (.r 19),some (18,false)⟩,⟨.load 0 false 1 (.r 20),some (18,false)⟩,⟨.un .not (.r 21),some (18,false)⟩,⟨.pick (.r 18) (.c (.bool true)) (.r 22),some (11,true)⟩,⟨.pick (.r 11) (.r 23) (.c (.bool false)),none⟩,⟨.mv (.r 24),none⟩] [] [] [(2,25,none)])
 (.drop [1] [(true,0)]))
 (.ret))⟩
def h62 : Vm.Hint := ⟨[0,2,4,5],[],[],[[0],[0,0],[0,0],[0,0],[0,0],[0],[0]],[([1],[]),([0],[]),([],[]),([],[]),([2],[]),([2,3],[]),([2,3],[])],[]⟩
def ir_ops_Loads : Vm.Fn := ⟨[0,2,4,5],0,0,[.slot 1],.seq (.seq (.reg [⟨.mv (.c (.bool false)),none⟩] [] [] [(1,0,none)])
 (.drop [1] []))
 (.seq (.seq (.seq (.reg [⟨.mv (.s 0),none⟩,⟨.call .val n_ops_Sort [(.r 0)],none⟩] [] [] [(2,1,none)])
 (.drop [0] []))
 (.block 0 (.seq (.seq (.reg [⟨.bin .eql (.s 2) (.c (.int .i64 4)),none⟩,⟨.mv (.r 0),none⟩] [] [] [(3,1,none)])
  (.cond (.s 3) (.skip)
   (.seq (.reg [⟨.bin .eql (.s 2) (.c (.int .i64 10)),none⟩,⟨.mv (.r 0),none⟩] [] [] [(3,1,none)])
   (.cond (.s 3) (.skip)
    (.seq (.reg [⟨.bin .eql (.s 2) (.c (.int .i64 12)),none⟩,⟨.mv (.r 0),none⟩] [] [] [(3,1,none)])
    (.drop [2] []))))))
  (.cond (.s 3) (.seq (.seq (.reg [⟨.mv (.c (.bool true)),none⟩] [] [] [(1,0,none)])
   (.drop [2,3] []))
   (.ret))
   (.skip)))))
 (.seq (.seq (.reg [⟨.mv (.c (.bool false)),none⟩] [] [] [(1,0,none)])
 (.drop [2,3] []))
 (.ret)))⟩
def h63 : Vm.Hint := ⟨[0,2,4,5],[],[],[[0],[0,0],[0,0],[0,0],[0,0],[0],[0]],[([1],[]),([0],[]),([],[]),([],[]),([2],[]),([2,3],[]),([2,3],[])],[]⟩
def ir_ops_Stores : Vm.Fn := ⟨[0,2,4,5],0,0,[.slot 1],.seq (.seq (.reg [⟨.mv (.c (.bool false)),none⟩] [] [] [(1,0,none)])
 (.drop [1] []))
 (.seq (.seq (.seq (.reg [⟨.mv (.s 0),none⟩,⟨.call .val n_ops_Sort [(.r 0)],none⟩] [] [] [(2,1,none)])
 (.drop [0] []))
 (.block 0 (.seq (.seq (.reg [⟨.bin .eql (.s 2) (.c (.int .i64 5)),none⟩,⟨.mv (.r 0),none⟩] [] [] [(3,1,none)])
  (.cond (.s 3) (.skip)
   (.seq (.reg [⟨.bin .eql (.s 2) (.c (.int .i64 11)),none⟩,⟨.mv (.r 0),none⟩] [] [] [(3,1,none)])
   (.cond (.s 3) (.skip)
    (.seq (.reg [⟨.bin .eql (.s 2) (.c (.int .i64 12)),none⟩,⟨.mv (.r 0),none⟩] [] [] [(3,1,none)])
    (.drop [2] []))))))
  (.cond (.s 3) (.seq (.seq (.reg [⟨.mv (.c (.bool true)),none⟩] [] [] [(1,0,none)])
   (.drop [2,3] []))
   (.ret))
   (.skip)))))
 (.seq (.seq (.reg [⟨.mv (.c (.bool false)),none⟩] [] [] [(1,0,none)])
 (.drop [2,3] []))
 (.ret)))⟩
def h64 : Vm.Hint := ⟨[0,2,3,4,8,12,18,23,27],[],[],[[0],[0],[0,0],[0,0],[0,0],[0],[0,0],[0,0],[0,0],[0],[0,0],[0,0],[0,0],[0,0],[0,0],[0],[0,0],[0,0],[0,0],[0,0],[0],[0,0,0,0],[0],[0,0,0],[0],[0]],[],[]⟩
def ir_ops_Size : Vm.Fn := ⟨[0,2,3,4,8,12,18,23,27],0,0,[.slot 1],.seq (.reg [⟨.mv (.c (.int .i64 0)),none⟩] [] [] [(1,0,none)])
 (.seq (.seq (.reg [⟨.mv (.s 0),none⟩] [] [] [(2,0,none)])
 (.block 0 (.seq (.seq (.reg [⟨.bin .eql (.s 2) (.c (.int .i64 11)),none⟩,⟨.mv (.r 0),none⟩] [] [] [(3,1,none)])
  (.cond (.s 3) (.skip)
   (.seq (.reg [⟨.bin .eql (.s 2) (.c (.int .i64 15)),none⟩,⟨.mv (.r 0),none⟩] [] [] [(3,1,none)])
   (.cond (.s 3) (.skip)
    (.reg [⟨.bin .eql (.s 2) (.c (.int .i64 18)),none⟩,⟨.mv (.r 0),none⟩] [] [] [(3,1,none)])))))
  (.cond (.s 3) (.seq (.reg [⟨.mv (.c (.int .i64 1)),none⟩] [] [] [(1,0,none)])
   (.ret))
   (.seq (.seq (.reg [⟨.bin .eql (.s 2) (.c (.int .i64 12)),none⟩,⟨.mv (.r 0),none⟩] [] [] [(4,1,none)])
   (.cond (.s 4) (.skip)
    (.seq (.reg [⟨.bin .eql (.s 2) (.c (.int .i64 16)),none⟩,⟨.mv (.r 0),none⟩] [] [] [(4,1,none)])
    (.cond (.s 4) (.skip)
     (.reg [⟨.bin .eql (.s 2) (.c (.int .i64 19)),none⟩,⟨.mv (.r 0),none⟩] [] [] [(4,1,none)])))))
   (.cond (.s 4) (.seq (.reg [⟨.mv (.c (.int .i64 2)),none⟩] [] [] [(1,0,none)])
    (.ret))
    (.seq (.seq (.reg [⟨.bin .eql (.s 2) (.c (.int .i64 13)),none⟩,⟨.mv (.r 0),none⟩] [] [] [(5,1,none)])
    (.cond (.s 5) (.skip)
     (.seq (.reg [⟨.bin .eql (.s 2) (.c (.int .i64 17)),none⟩,⟨.mv (.r 0),none⟩] [] [] [(5,1,none)])
     (.cond (.s 5) (.skip)
      (.seq (.reg [⟨.bin .eql (.s 2) (.c (.int .i64 20)),none⟩,⟨.mv (.r 0),none⟩] [] [] [(5,1,none)])
      (.cond (.s 5) (.skip)
       (.seq (.reg [⟨.bin .eql (.s 2) (.c (.int .i64 54)),none⟩,⟨.mv (.r 0),none⟩] [] [] [(5,1,none)])
       (.cond (.s 5) (.skip)
        (.reg [⟨.bin .eql (.s 2) (.c (.int .i64 56)),none⟩,⟨.mv (.r 0),none⟩] [] [] [(5,1,none)])))))))))
    (.cond (.s 5) (.seq (.reg [⟨.mv (.c (.int .i64 4)),none⟩] [] [] [(1,0,none)])
     (.ret))
     (.seq (.seq (.reg [⟨.bin .eql (.s 2) (.c (.int .i64 14)),none⟩,⟨.mv (.r 0),none⟩] [] [] [(6,1,none)])
     (.cond (.s 6) (.skip)
      (.seq (.reg [⟨.bin .eql (.s 2) (.c (.int .i64 21)),none⟩,⟨.mv (.r 0),none⟩] [] [] [(6,1,none)])
      (.cond (.s 6) (.skip)
       (.seq (.reg [⟨.bin .eql (.s 2) (.c (.int .i64 55)),none⟩,⟨.mv (.r 0),none⟩] [] [] [(6,1,none)])
       (.cond (.s 6) (.skip)
        (.reg [⟨.bin .eql (.s 2) (.c (.int .i64 57)),none⟩,⟨.mv (.r 0),none⟩] [] [] [(6,1,none)])))))))
     (.cond (.s 6) (.seq (.reg [⟨.mv (.c (.int .i64 8)),none⟩] [] [] [(1,0,none)])
      (.ret))
      (.skip)))))))))))
 (.seq (.block 1 (.seq (.reg [⟨.mv (.s 0),none⟩,⟨.call .val n_ops_Sort [(.r 0)],none⟩,⟨.bin .neq (.r 1) (.c (.int .i64 12)),none⟩,⟨.mv (.r 2),none⟩] [] [] [(7,3,none)])
  (.cond (.s 7) (.seq (.reg [⟨.mv (.c (.int .i64 0)),none⟩] [] [] [(1,0,none)])
   (.ret))
   (.seq (.reg [⟨.mv (.s 0),none⟩,⟨.bin .leq (.r 0) (.c (.int .i64 66)),none⟩,⟨.mv (.r 1),none⟩] [] [] [(8,2,none)])
   (.cond (.s 8) (.seq (.reg [⟨.mv (.c (.int .i64 4)),none⟩] [] [] [(1,0,none)])
    (.ret))
    (.skip))))))
 (.seq (.reg [⟨.mv (.c (.int .i64 8)),none⟩] [] [] [(1,0,none)])
 (.ret))))⟩
def h65 : Vm.Hint := ⟨[0,1,2],[1],[],[[1,0],[0,0,0,0,0,0,0,0,0,0,0,0,0,0,0,0,0]],[([0,2],[]),([1],[(true,0)])],[]⟩
def ir_cand_look_image : Vm.Fn := ⟨[0,1,2],1,0,[.slot 2],.seq (.seq (.reg [⟨.lbox 0 7 (.s 0),none⟩,⟨.mv (.c (.bool false)),none⟩] [(true,0)] [] [(1,0,some 1),(2,1,none)])
 (.drop [0,2] []))
 (.seq (.seq (.reg [⟨.off 0 (.s 1),none⟩,⟨.off 0 (.r 0),none⟩,⟨.load 0 false 1 (.r 1),none⟩,⟨.len 1 (.r 2),none⟩,⟨.bin .gtr (.r 3) (.c (.int .i64 1024)),none⟩,⟨.mv (.r 4),none⟩,⟨.off 0 (.s 1),some (5,false)⟩,⟨.off 4 (.r 6),some (5,false)⟩,⟨.load 0 false 1 (.r 7),some (5,false)⟩,⟨.len 1 (.r 8),some (5,false)⟩,⟨.off 0 (.s 1),some (5,false)⟩,⟨.off 0 (.r 10),some (5,false)⟩,⟨.load 0 false 1 (.r 11),some (5,false)⟩,⟨.len 1 (.r 12),some (5,false)⟩,⟨.bin .neq (.r 9) (.r 13),some (5,false)⟩,⟨.pick (.r 5) (.c (.bool true)) (.r 14),none⟩,⟨.mv (.r 15),none⟩] [] [] [(2,16,none)])
 (.drop [1] [(true,0)]))
 (.ret))⟩
def h66 : Vm.Hint := ⟨[0,1,2,3,5,8,9,10],[1],[],[[1,0],[0],[0,0,0,0],[0],[0,0],[0,0,0,0,0],[0,0],[0,0,0]],[([0,2],[]),([],[]),([1],[(true,0)]),([],[]),([7],[]),([4],[]),([],[]),([3,5,6,7],[])],[]⟩
def ir_cand_look_manyl0 : C :=
 .seq (.reg [⟨.bin .lss (.s 6) (.c (.int .i64 3)),none⟩] [] [] [(7,0,none)])
 (.seq (.cond (.s 7) (.skip)
  (.exit 0))
 (.seq (.block 1 (.seq (.seq (.reg [⟨.ixA 3 1 false (.s 5) (.s 6),none⟩,⟨.mv (.r 0),none⟩] [] [] [(4,1,none)])
  (.drop [7] []))
  (.seq (.reg [⟨.mv (.s 3),none⟩,⟨.mv (.s 4),none⟩,⟨.len 1 (.r 1),none⟩,⟨.bin .add (.r 0) (.r 2),none⟩,⟨.mv (.r 3),none⟩] [] [] [(3,4,none)])
  (.drop [4] []))))
 (.reg [⟨.bin .add (.s 6) (.c (.int .i64 1)),none⟩,⟨.mv (.r 0),none⟩] [] [] [(6,1,none)])))
def ir_cand_look_many : Vm.Fn := ⟨[0,1,2,3,5,8,9,10],1,0,[.slot 2],.seq (.seq (.reg [⟨.lbox 0 7 (.s 0),none⟩,⟨.mv (.c (.bool false)),none⟩] [(true,0)] [] [(1,0,some 1),(2,1,none)])
 (.drop [0,2] []))
 (.seq (.reg [⟨.mv (.c (.int .i64 0)),none⟩] [] [] [(3,0,none)])
 (.seq (.seq (.seq (.reg [⟨.off 0 (.s 1),none⟩,⟨.off 1 (.r 0),none⟩,⟨.load 0 true 3 (.r 1),none⟩,⟨.mv (.c (.int .i64 0)),none⟩] [] [] [(5,2,none),(6,3,none)])
 (.drop [1] [(true,0)]))
 (.block 0 (.loop ir_cand_look_manyl0)))
 (.seq (.seq (.reg [⟨.mv (.s 3),none⟩,⟨.bin .gtr (.r 0) (.c (.int .i64 512)),none⟩,⟨.mv (.r 1),none⟩] [] [] [(2,2,none)])
 (.drop [3,5,6,7] []))
 (.ret))))⟩
def h67 : Vm.Hint := ⟨[0,1,2,3,5,7,11,12,13,15,16,17,18,29],[1,7],[],[[1,0],[0,0],[0,0,0,0],[0],[0,0],[0,0,0],[0],[0,0,2,0],[0,0,0,0,0,0,0,0,0],[0],[0,0,0,0],[0,0],[0,0],[0]],[([0,2],[]),([],[]),([1],[(true,0)]),([],[]),([8],[]),([4],[]),([],[]),([12],[]),([],[]),([3,5,6,7,9,10,11,13],[(true,1)]),([5,13],[(true,1)]),([],[]),([9,10,11,12],[]),([3,6,7,8],[])],[]⟩
def ir_cand_look_idsl0 : C :=
 .seq (.reg [⟨.bin .lss (.s 11) (.s 10),none⟩] [] [] [(12,0,none)])
 (.seq (.cond (.s 12) (.skip)
  (.exit 2))
 (.seq (.block 3 (.seq (.seq (.reg [⟨.iaS 27 (.s 9) (.s 11),none⟩,⟨.load 0 true 27 (.r 0),none⟩,⟨.lalloc 1 zz1,none⟩,⟨.store 0 27 (.r 2) (.r 1),none⟩] [(true,1)] [] [(5,2,some 3)])
  (.drop [12] []))
  (.seq (.seq (.reg [⟨.off 16 (.s 5),none⟩,⟨.load 0 false 1 (.r 0),none⟩,⟨.bin .lss (.r 1) (.c (.int .i64 0)),none⟩,⟨.mv (.r 2),none⟩,⟨.mv (.s 3),some (3,false)⟩,⟨.off 16 (.s 5),some (3,false)⟩,⟨.load 0 false 1 (.r 5),some (3,false)⟩,⟨.look false false [.bool false] (.r 4) (.r 6),some (3,false)⟩,⟨.pick (.r 3) (.c (.bool true)) (.r 7),none⟩] [] [] [(13,8,none)])
  (.cond (.s 13) (.seq (.seq (.reg [⟨.mv (.c (.bool true)),none⟩] [] [] [(2,0,none)])
   (.drop [3,5,6,7,9,10,11,13] [(true,1)]))
   (.ret))
   (.skip)))
  (.seq (.reg [⟨.mv (.s 3),none⟩,⟨.off 16 (.s 5),none⟩,⟨.load 0 false 1 (.r 1),none⟩,⟨.mput (.r 0) (.r 2) (.c (.bool true)),none⟩] [] [] [])
  (.drop [5,13] [(true,1)])))))
 (.reg [⟨.bin .add (.s 11) (.c (.int .i64 1)),none⟩,⟨.mv (.r 0),none⟩] [] [] [(11,1,none)])))
def ir_cand_look_idsl1 : C :=
 .seq (.reg [⟨.bin .lss (.s 7) (.c (.int .i64 3)),none⟩] [] [] [(8,0,none)])
 (.seq (.cond (.s 8) (.skip)
  (.exit 0))
 (.seq (.block 1 (.seq (.seq (.reg [⟨.ixA 3 1 false (.s 6) (.s 7),none⟩,⟨.mv (.r 0),none⟩] [] [] [(4,1,none)])
  (.drop [8] []))
  (.seq (.seq (.reg [⟨.mv (.s 4),none⟩,⟨.len 1 (.r 0),none⟩,⟨.mv (.c (.int .i64 0)),none⟩] [] [] [(9,0,none),(10,1,none),(11,2,none)])
  (.drop [4] []))
  (.block 2 (.loop ir_cand_look_idsl0)))))
 (.seq (.reg [⟨.bin .add (.s 7) (.c (.int .i64 1)),none⟩,⟨.mv (.r 0),none⟩] [] [] [(7,1,none)])
 (.drop [9,10,11,12] []))))
def ir_cand_look_ids : Vm.Fn := ⟨[0,1,2,3,5,7,11,12,13,15,16,17,18,29],2,0,[.slot 2],.seq (.seq (.reg [⟨.lbox 0 7 (.s 0),none⟩,⟨.mv (.c (.bool false)),none⟩] [(true,0)] [] [(1,0,some 1),(2,1,none)])
 (.drop [0,2] []))
 (.seq (.reg [⟨.mkmap,none⟩,⟨.mv (.r 0),none⟩] [] [] [(3,1,none)])
 (.seq (.seq (.seq (.reg [⟨.off 0 (.s 1),none⟩,⟨.off 1 (.r 0),none⟩,⟨.load 0 true 3 (.r 1),none⟩,⟨.mv (.c (.int .i64 0)),none⟩] [] [] [(6,2,none),(7,3,none)])
 (.drop [1] [(true,0)]))
 (.block 0 (.loop ir_cand_look_idsl1)))
 (.seq (.seq (.reg [⟨.mv (.c (.bool false)),none⟩] [] [] [(2,0,none)])
 (.drop [3,6,7,8] []))
 (.ret))))⟩
def h68 : Vm.Hint := ⟨[0,1,2],[],[],[[0,0],[0,0,0,1,0]],[([0,2],[]),([1],[])],[]⟩
def ir_cand_look_places : Vm.Fn := ⟨[0,1,2],0,0,[.slot 2],.seq (.seq (.reg [⟨.hbox 7 (.s 0),none⟩,⟨.mv (.c (.bool false)),none⟩] [] [] [(1,0,none),(2,1,none)])
 (.drop [0,2] []))
 (.seq (.seq (.reg [⟨.off 5 (.s 1),none⟩,⟨.load 0 false 1 (.r 0),none⟩,⟨.mkfn 107 [] [(.s 1)],none⟩,⟨.call .heap n_slices_ContainsFunc_api_Event_api_Event [(.r 1),(.r 2)],none⟩,⟨.mv (.r 3),none⟩] [] [] [(2,4,none)])
 (.drop [1] []))
 (.ret))⟩
def h69 : Vm.Hint := ⟨[0,1,2,4,6,7,9,10,12,13,14,16,19,20,21,23,24,25,26,37,45,46,47,48,52,57,58,59,60,64,65,66,78,90],[1,12,15],[],[[1,0],[0,0,0,0],[0],[0,0],[0,0,0],[0],[0,0,0,0],[0],[0,0,0,0,0,0,0,0,0],[0,0,0,0,0,0],[0,0,0,0,0],[0],[0,0,0],[0,0],[0],[0,0],[0,0],[0,0],[0],[0,0,0,0],[0],[0,0,2,0],[0,0,0],[0],[0,0],[0,0,0,0,0,0],[0,0,0,0,0,0],[0,0,0,0,0,0,1,0,0,0,3,0,0],[0,0],[0],[0,0],[0,0],[0,0]],[([0,2],[]),([],[]),([],[]),([14],[]),([3],[]),([],[]),([18],[]),([],[]),([],[]),([19],[]),([4,5,19],[]),([],[]),([23],[]),([6],[]),([1,12,13,15,16,17,20,21,22,24],[(true,0)]),([24],[]),([20,21,22,23],[]),([15,16,17,18],[]),([12,13,14],[]),([],[]),([],[]),([28],[]),([],[]),([],[]),([31],[]),([],[]),([],[]),([9,10,32],[(true,2)]),([11],[]),([1,8,25,26,27,29,30,33],[(true,0),(true,1)]),([9,10,32,33],[]),([8,29,30,31],[(true,1)]),([1,7,25,26,27,28],[(true,0)])],[]⟩
def ir_cand_look_tagsl0 : C :=
 .seq (.reg [⟨.bin .lss (.s 22) (.s 21),none⟩] [] [] [(23,0,none)])
 (.seq (.cond (.s 23) (.skip)
  (.exit 4))
 (.seq (.block 5 (.seq (.seq (.reg [⟨.iaS 1 (.s 20) (.s 22),none⟩,⟨.load 0 false 1 (.r 0),none⟩,⟨.mv (.r 1),none⟩] [] [] [(6,2,none)])
  (.drop [23] []))
  (.seq (.seq (.reg [⟨.mv (.s 6),none⟩,⟨.bin .neq (.r 0) (.c (.int .i64 (-1))),none⟩] [] [] [(24,1,none)])
  (.drop [6] []))
  (.cond (.s 24) (.seq (.seq (.reg [⟨.mv (.c (.bool true)),none⟩] [] [] [(2,0,none)])
   (.drop [1,12,13,15,16,17,20,21,22,24] [(true,0)]))
   (.ret))
   (.skip)))))
 (.seq (.reg [⟨.bin .add (.s 22) (.c (.int .i64 1)),none⟩,⟨.mv (.r 0),none⟩] [] [] [(22,1,none)])
 (.drop [24] []))))
def ir_cand_look_tagsl1 : C :=
 .seq (.reg [⟨.bin .lss (.s 17) (.s 16),none⟩] [] [] [(18,0,none)])
 (.seq (.cond (.s 18) (.skip)
  (.exit 2))
 (.seq (.block 3 (.seq (.seq (.reg [⟨.iaS 27 (.s 15) (.s 17),none⟩,⟨.load 0 true 27 (.r 0),none⟩,⟨.halloc zz1,none⟩,⟨.store 0 27 (.r 2) (.r 1),none⟩] [] [] [(4,2,none)])
  (.drop [18] []))
  (.seq (.reg [⟨.mv (.c (.int .i64 0)),none⟩] [] [] [(5,0,none)])
  (.seq (.seq (.reg [⟨.load 0 true 27 (.s 4),none⟩,⟨.call .val n_cand_isEvent [(.r 0)],none⟩,⟨.mv (.r 1),none⟩,⟨.off 0 (.s 4),some (2,true)⟩,⟨.off 1 (.r 3),some (2,true)⟩,⟨.off 0 (.r 4),some (2,true)⟩,⟨.load 0 false 1 (.r 5),some (2,true)⟩,⟨.call .val n_ops_Loads [(.r 6)],some (2,true)⟩,⟨.pick (.r 2) (.r 7) (.c (.bool false)),none⟩] [] [] [(19,8,none)])
  (.cond (.s 19) (.seq (.reg [⟨.off 0 (.s 4),none⟩,⟨.off 1 (.r 0),none⟩,⟨.off 0 (.r 1),none⟩,⟨.load 0 false 1 (.r 2),none⟩,⟨.call .val n_ops_Size [(.r 3)],none⟩,⟨.mv (.r 4),none⟩] [] [] [(5,5,none)])
   (.drop [19] []))
   (.skip)))
  (.seq (.seq (.reg [⟨.off 18 (.s 4),none⟩,⟨.mv (.s 5),none⟩,⟨.slcA 8 1 (.r 0) (some (.r 1)) none none,none⟩,⟨.len 1 (.r 2),none⟩,⟨.mv (.c (.int .i64 0)),none⟩] [] [] [(20,2,none),(21,3,none),(22,4,none)])
  (.drop [4,5,19] []))
  (.block 4 (.loop ir_cand_look_tagsl0)))))))
 (.seq (.reg [⟨.bin .add (.s 17) (.c (.int .i64 1)),none⟩,⟨.mv (.r 0),none⟩] [] [] [(17,1,none)])
 (.drop [20,21,22,23] []))))
def ir_cand_look_tagsl2 : C :=
 .seq (.reg [⟨.bin .lss (.s 13) (.c (.int .i64 3)),none⟩] [] [] [(14,0,none)])
 (.seq (.cond (.s 14) (.skip)
  (.exit 0))
 (.seq (.block 1 (.seq (.seq (.reg [⟨.ixA 3 1 false (.s 12) (.s 13),none⟩,⟨.mv (.r 0),none⟩] [] [] [(3,1,none)])
  (.drop [14] []))
  (.seq (.seq (.reg [⟨.mv (.s 3),none⟩,⟨.len 1 (.r 0),none⟩,⟨.mv (.c (.int .i64 0)),none⟩] [] [] [(15,0,none),(16,1,none),(17,2,none)])
  (.drop [3] []))
  (.block 2 (.loop ir_cand_look_tagsl1)))))
 (.seq (.reg [⟨.bin .add (.s 13) (.c (.int .i64 1)),none⟩,⟨.mv (.r 0),none⟩] [] [] [(13,1,none)])
 (.drop [15,16,17,18] []))))
def ir_cand_look_tagsl3 : C :=
 .seq (.reg [⟨.bin .lss (.s 30) (.s 29),none⟩] [] [] [(31,0,none)])
 (.seq (.cond (.s 31) (.skip)
  (.exit 8))
 (.seq (.block 9 (.seq (.seq (.reg [⟨.mv (.s 30),none⟩,⟨.mv (.r 0),none⟩] [] [] [(9,1,none)])
  (.drop [31] []))
  (.seq (.reg [⟨.mv (.s 9),none⟩,⟨.off 2 (.s 8),none⟩,⟨.off 18 (.r 1),none⟩,⟨.iaA 8 1 (.r 2) (.r 0),none⟩,⟨.load 0 false 1 (.r 3),none⟩,⟨.mv (.r 4),none⟩] [] [] [(10,5,none)])
  (.seq (.reg [⟨.off 29 (.s 8),none⟩,⟨.load 0 false 1 (.r 0),none⟩,⟨.mv (.r 1),none⟩,⟨.mv (.s 10),some (2,true)⟩,⟨.bin .neq (.r 3) (.c (.int .i64 (-1))),some (2,true)⟩,⟨.pick (.r 2) (.r 4) (.c (.bool false)),none⟩] [] [] [(32,5,none)])
  (.cond (.s 32) (.seq (.seq (.reg [⟨.load 0 true 7 (.s 1),none⟩,⟨.mv (.s 10),none⟩,⟨.off 31 (.s 8),none⟩,⟨.load 0 false 1 (.r 2),none⟩,⟨.mv (.s 9),none⟩,⟨.bin .add (.r 3) (.r 4),none⟩,⟨.call .heap n_cand_look_writer [(.r 0),(.r 1),(.r 5)],none⟩,⟨.mv (.r 6),none⟩,⟨.ext (.r 7) 0,none⟩,⟨.ext (.r 7) 1,none⟩,⟨.lalloc 2 zz0,none⟩,⟨.store 0 33 (.r 10) (.r 8),none⟩,⟨.mv (.r 9),none⟩] [(true,2)] [] [(11,12,none)])
   (.drop [9,10,32] [(true,2)]))
   (.seq (.seq (.reg [⟨.mv (.s 11),none⟩,⟨.un .not (.r 0),none⟩] [] [] [(33,1,none)])
   (.drop [11] []))
   (.cond (.s 33) (.seq (.seq (.reg [⟨.mv (.c (.bool true)),none⟩] [] [] [(7,0,none)])
    (.drop [1,8,25,26,27,29,30,33] [(true,0),(true,1)]))
    (.exit 6))
    (.skip))))
   (.skip))))))
 (.seq (.reg [⟨.bin .add (.s 30) (.c (.int .i64 1)),none⟩,⟨.mv (.r 0),none⟩] [] [] [(30,1,none)])
 (.drop [9,10,32,33] []))))
def ir_cand_look_tagsl4 : C :=
 .seq (.reg [⟨.bin .lss (.s 27) (.s 26),none⟩] [] [] [(28,0,none)])
 (.seq (.cond (.s 28) (.skip)
  (.exit 6))
 (.seq (.block 7 (.seq (.seq (.reg [⟨.iaS 33 (.s 25) (.s 27),none⟩,⟨.load 0 true 33 (.r 0),none⟩,⟨.lalloc 1 zz0,none⟩,⟨.store 0 33 (.r 2) (.r 1),none⟩] [(true,1)] [] [(8,2,some 3)])
  (.drop [28] []))
  (.seq (.reg [⟨.off 32 (.s 8),none⟩,⟨.load 0 false 1 (.r 0),none⟩,⟨.mv (.c (.int .i64 0)),none⟩] [] [] [(29,1,none),(30,2,none)])
  (.block 8 (.loop ir_cand_look_tagsl3)))))
 (.seq (.reg [⟨.bin .add (.s 27) (.c (.int .i64 1)),none⟩,⟨.mv (.r 0),none⟩] [] [] [(27,1,none)])
 (.drop [8,29,30,31] [(true,1)]))))
def ir_cand_look_tags : Vm.Fn := ⟨[0,1,2,4,6,7,9,10,12,13,14,16,19,20,21,23,24,25,26,37,45,46,47,48,52,57,58,59,60,64,65,66,78,90],3,0,[.slot 2],.seq (.seq (.reg [⟨.lbox 0 7 (.s 0),none⟩,⟨.mv (.c (.bool false)),none⟩] [(true,0)] [] [(1,0,some 1),(2,1,none)])
 (.drop [0,2] []))
 (.seq (.seq (.reg [⟨.off 0 (.s 1),none⟩,⟨.off 1 (.r 0),none⟩,⟨.load 0 true 3 (.r 1),none⟩,⟨.mv (.c (.int .i64 0)),none⟩] [] [] [(12,2,none),(13,3,none)])
 (.block 0 (.loop ir_cand_look_tagsl2)))
 (.seq (.seq (.reg [⟨.mv (.c (.bool false)),none⟩] [] [] [(7,0,none)])
 (.drop [12,13,14] []))
 (.seq (.seq (.reg [⟨.off 5 (.s 1),none⟩,⟨.load 0 false 1 (.r 0),none⟩,⟨.len 1 (.r 1),none⟩,⟨.mv (.c (.int .i64 0)),none⟩] [] [] [(25,1,none),(26,2,none),(27,3,none)])
 (.block 6 (.loop ir_cand_look_tagsl4)))
 (.seq (.seq (.reg [⟨.mv (.s 7),none⟩,⟨.mv (.r 0),none⟩] [] [] [(2,1,none)])
 (.drop [1,7,25,26,27,28] [(true,0)]))
 (.ret)))))⟩
def h70 : Vm.Hint := ⟨[0,1,2,4,5,6,7,8,9,12,13,14,15,20,33,40,41,42,43,62,84],[1,4,9],[],[[1,0],[0,0,0,0],[0],[0,0,2,0],[0,0,0],[0,0,0,0,0,0,0,0,0,0,0,0,0],[0],[0,0,0,0,0,0,0,0,0],[0],[0,0,0,0,0],[0,0,0,0,0,0,0,0,0,0],[0,0,0,0,0,0],[0,0],[0,0,0,0,0,0,1,0,0,0,3,0,0],[0,0,0,0,0,0,0,0,0,0],[0,0,0],[0],[0,0],[0,0],[0]],[([0,2],[]),([],[]),([],[]),([12],[]),([],[]),([13],[]),([1,3,9,10,11,14],[(true,0),(true,1)]),([14],[]),([],[]),([18],[]),([],[]),([],[]),([],[]),([6,7,19],[]),([4,8],[(true,2)]),([4,5,6,7,19],[]),([1,3,9,10,11,15,16,17,20],[(true,0),(true,1)]),([20],[]),([3,13,15,16,17,18],[(true,1)]),([1,9,10,11,12],[(true,0)])],[]⟩
def ir_cand_look_bytesl0 : C :=
 .seq (.reg [⟨.bin .lss (.s 17) (.s 16),none⟩] [] [] [(18,0,none)])
 (.seq (.cond (.s 18) (.skip)
  (.exit 2))
 (.seq (.block 3 (.seq (.seq (.reg [⟨.mv (.s 17),none⟩,⟨.iaS 1 (.s 15) (.s 17),none⟩,⟨.load 0 false 1 (.r 1),none⟩,⟨.mv (.r 0),none⟩,⟨.mv (.r 2),none⟩] [] [] [(4,3,none),(5,4,none)])
  (.drop [18] []))
  (.seq (.reg [⟨.off 0 (.s 1),none⟩,⟨.off 0 (.r 0),none⟩,⟨.load 0 false 1 (.r 1),none⟩,⟨.off 31 (.s 3),none⟩,⟨.load 0 false 1 (.r 3),none⟩,⟨.mv (.s 4),none⟩,⟨.bin .add (.r 4) (.r 5),none⟩,⟨.iaS 1 (.r 2) (.r 6),none⟩,⟨.load 0 false 1 (.r 7),none⟩,⟨.mv (.r 8),none⟩] [] [] [(6,9,none)])
  (.seq (.seq (.reg [⟨.mv (.s 4),none⟩,⟨.off 2 (.s 3),none⟩,⟨.off 18 (.r 1),none⟩,⟨.iaA 8 1 (.r 2) (.r 0),none⟩,⟨.load 0 false 1 (.r 3),none⟩,⟨.mv (.r 4),none⟩] [] [] [(7,5,none)])
  (.seq (.reg [⟨.mv (.s 7),none⟩,⟨.bin .neq (.r 0) (.c (.int .i64 (-1))),none⟩] [] [] [(19,1,none)])
  (.cond (.s 19) (.seq (.seq (.reg [⟨.load 0 true 7 (.s 1),none⟩,⟨.mv (.s 7),none⟩,⟨.off 31 (.s 3),none⟩,⟨.load 0 false 1 (.r 2),none⟩,⟨.mv (.s 4),none⟩,⟨.bin .add (.r 3) (.r 4),none⟩,⟨.call .heap n_cand_look_writer [(.r 0),(.r 1),(.r 5)],none⟩,⟨.mv (.r 6),none⟩,⟨.ext (.r 7) 0,none⟩,⟨.ext (.r 7) 1,none⟩,⟨.lalloc 2 zz0,none⟩,⟨.store 0 33 (.r 10) (.r 8),none⟩,⟨.mv (.r 9),none⟩] [(true,2)] [] [(8,10,some 5)])
   (.drop [6,7,19] []))
   (.seq (.reg [⟨.load 0 true 33 (.s 8),none⟩,⟨.off 31 (.s 3),none⟩,⟨.load 0 false 1 (.r 1),none⟩,⟨.mv (.s 4),none⟩,⟨.bin .add (.r 2) (.r 3),none⟩,⟨.call .val n_cand_Byte [(.r 0),(.r 4)],none⟩,⟨.mv (.r 5),none⟩,⟨.ext (.r 6) 0,none⟩,⟨.ext (.r 6) 1,none⟩,⟨.mv (.r 7),none⟩] [] [] [(6,9,none)])
   (.drop [4,8] [(true,2)])))
   (.skip))))
  (.seq (.seq (.reg [⟨.mv (.s 5),none⟩,⟨.mv (.s 6),none⟩,⟨.bin .neq (.r 0) (.r 1),none⟩] [] [] [(20,2,none)])
  (.drop [4,5,6,7,19] []))
  (.cond (.s 20) (.seq (.seq (.reg [⟨.mv (.c (.bool true)),none⟩] [] [] [(2,0,none)])
   (.drop [1,3,9,10,11,15,16,17,20] [(true,0),(true,1)]))
   (.ret))
   (.skip)))))))
 (.seq (.reg [⟨.bin .add (.s 17) (.c (.int .i64 1)),none⟩,⟨.mv (.r 0),none⟩] [] [] [(17,1,none)])
 (.drop [20] []))))
def ir_cand_look_bytesl1 : C :=
 .seq (.reg [⟨.bin .lss (.s 11) (.s 10),none⟩] [] [] [(12,0,none)])
 (.seq (.cond (.s 12) (.skip)
  (.exit 0))
 (.seq (.block 1 (.seq (.seq (.reg [⟨.iaS 33 (.s 9) (.s 11),none⟩,⟨.load 0 true 33 (.r 0),none⟩,⟨.lalloc 1 zz0,none⟩,⟨.store 0 33 (.r 2) (.r 1),none⟩] [(true,1)] [] [(3,2,some 3)])
  (.drop [12] []))
  (.seq (.seq (.reg [⟨.off 29 (.s 3),none⟩,⟨.load 0 false 1 (.r 0),none⟩,⟨.un .not (.r 1),none⟩] [] [] [(13,2,none)])
  (.cond (.s 13) (.exit 1)
   (.skip)))
  (.seq (.seq (.seq (.reg [⟨.off 2 (.s 3),none⟩,⟨.off 0 (.r 0),none⟩,⟨.off 13 (.r 1),none⟩,⟨.load 0 false 1 (.r 2),none⟩,⟨.off 32 (.s 3),none⟩,⟨.load 0 false 1 (.r 4),none⟩,⟨.bin .mul (.c (.int .i64 8)) (.r 5),none⟩,⟨.call .val n_word_Zext [(.r 3),(.r 6)],none⟩,⟨.off 2 (.s 3),none⟩,⟨.off 0 (.r 8),none⟩,⟨.off 13 (.r 9),none⟩,⟨.load 0 false 1 (.r 10),none⟩,⟨.bin .neq (.r 7) (.r 11),none⟩] [] [(3,5),(3,11),(5,11),(7,11)] [(14,12,none)])
  (.drop [13] []))
  (.cond (.s 14) (.seq (.seq (.reg [⟨.mv (.c (.bool true)),none⟩] [] [] [(2,0,none)])
   (.drop [1,3,9,10,11,14] [(true,0),(true,1)]))
   (.ret))
   (.skip)))
  (.seq (.seq (.reg [⟨.off 2 (.s 3),none⟩,⟨.off 0 (.r 0),none⟩,⟨.off 13 (.r 1),none⟩,⟨.load 0 false 1 (.r 2),none⟩,⟨.off 32 (.s 3),none⟩,⟨.load 0 false 1 (.r 4),none⟩,⟨.call .val n_word_Bytes [(.r 3),(.r 5)],none⟩,⟨.len 1 (.r 6),none⟩,⟨.mv (.c (.int .i64 0)),none⟩] [] [] [(15,6,none),(16,7,none),(17,8,none)])
  (.drop [14] []))
  (.block 2 (.loop ir_cand_look_bytesl0)))))))
 (.seq (.reg [⟨.bin .add (.s 11) (.c (.int .i64 1)),none⟩,⟨.mv (.r 0),none⟩] [] [] [(11,1,none)])
 (.drop [3,13,15,16,17,18] [(true,1)]))))
def ir_cand_look_bytes : Vm.Fn := ⟨[0,1,2,4,5,6,7,8,9,12,13,14,15,20,33,40,41,42,43,62,84],3,0,[.slot 2],.seq (.seq (.reg [⟨.lbox 0 7 (.s 0),none⟩,⟨.mv (.c (.bool false)),none⟩] [(true,0)] [] [(1,0,some 1),(2,1,none)])
 (.drop [0,2] []))
 (.seq (.seq (.reg [⟨.off 5 (.s 1),none⟩,⟨.load 0 false 1 (.r 0),none⟩,⟨.len 1 (.r 1),none⟩,⟨.mv (.c (.int .i64 0)),none⟩] [] [] [(9,1,none),(10,2,none),(11,3,none)])
 (.block 0 (.loop ir_cand_look_bytesl1)))
 (.seq (.seq (.reg [⟨.mv (.c (.bool false)),none⟩] [] [] [(2,0,none)])
 (.drop [1,9,10,11,12] [(true,0)]))
 (.ret)))⟩
def h71 : Vm.Hint := ⟨[0,1,2,3,4,5,7,9,11,14,15,16,17,23,24,25,26,35,41,42,43,44,50,56],[1,7],[],[[1,0],[0,0,0,0,0],[0],[0,0,0,0,0],[0,0],[0,0,0,0],[0],[0,0,2,0],[0,0,0,0,0,0,0,0],[0],[0,0,0,0,0],[0,0],[0,0,0],[0],[0,0,0],[0,0,0,0],[0],[0,0,0],[0,0],[0,0,0],[0],[0,0],[0]],[([0,2],[]),([],[]),([],[]),([12],[]),([],[]),([],[]),([],[]),([16],[]),([],[]),([7],[]),([6,17],[(true,1)]),([6,17],[(true,1)]),([3,4,13,14,15,16],[]),([],[]),([21],[]),([],[]),([1,5,8,9,10,11,18,19,20,22],[(true,0)]),([8,22],[]),([],[]),([5,18,19,20,21],[]),([1,9,10,11,23],[(true,0)]),([23],[]),([1,9,10,11,12],[(true,0)])],[]⟩
def ir_cand_look_ordersl0 : C :=
 .seq (.reg [⟨.bin .lss (.s 15) (.s 14),none⟩] [] [] [(16,0,none)])
 (.seq (.cond (.s 16) (.skip)
  (.exit 2))
 (.seq (.block 3 (.seq (.seq (.reg [⟨.iaS 33 (.s 13) (.s 15),none⟩,⟨.load 0 true 33 (.r 0),none⟩,⟨.lalloc 1 zz0,none⟩,⟨.store 0 33 (.r 2) (.r 1),none⟩] [(true,1)] [] [(6,2,some 3)])
  (.drop [16] []))
  (.seq (.reg [⟨.load 0 true 33 (.s 6),none⟩,⟨.mv (.s 3),none⟩,⟨.call .val n_cand_Byte [(.r 0),(.r 1)],none⟩,⟨.mv (.r 2),none⟩,⟨.ext (.r 3) 0,none⟩,⟨.ext (.r 3) 1,none⟩,⟨.mv (.r 4),none⟩,⟨.mv (.r 5),none⟩] [] [] [(7,7,none)])
  (.seq (.seq (.reg [⟨.mv (.s 7),none⟩] [] [] [(17,0,none)])
  (.drop [7] []))
  (.cond (.s 17) (.seq (.reg [⟨.mv (.s 5),none⟩,⟨.off 2 (.s 6),none⟩,⟨.off 16 (.r 1),none⟩,⟨.load 0 false 1 (.r 2),none⟩,⟨.mput (.r 0) (.r 3) (.c (.bool true)),none⟩] [] [] [])
   (.drop [6,17] [(true,1)]))
   (.skip))))))
 (.seq (.reg [⟨.bin .add (.s 15) (.c (.int .i64 1)),none⟩,⟨.mv (.r 0),none⟩] [] [] [(15,1,none)])
 (.drop [6,17] [(true,1)]))))
def ir_cand_look_ordersl1 : C :=
 .seq (.reg [⟨.bin .lss (.s 20) (.s 19),none⟩] [] [] [(21,0,none)])
 (.seq (.cond (.s 21) (.skip)
  (.exit 4))
 (.seq (.block 5 (.seq (.seq (.reg [⟨.iaS 1 (.s 18) (.s 20),none⟩,⟨.load 0 false 1 (.r 0),none⟩,⟨.mv (.r 1),none⟩] [] [] [(8,2,none)])
  (.drop [21] []))
  (.seq (.seq (.reg [⟨.mv (.s 5),none⟩,⟨.mv (.s 8),none⟩,⟨.look false false [.bool false] (.r 0) (.r 1),none⟩,⟨.un .not (.r 2),none⟩] [] [] [(22,3,none)])
  (.cond (.s 22) (.seq (.seq (.reg [⟨.mv (.c (.bool true)),none⟩] [] [] [(2,0,none)])
   (.drop [1,5,8,9,10,11,18,19,20,22] [(true,0)]))
   (.ret))
   (.skip)))
  (.seq (.reg [⟨.mv (.s 5),none⟩,⟨.mv (.s 8),none⟩,⟨.mdel (.r 0) (.r 1),none⟩] [] [] [])
  (.drop [8,22] [])))))
 (.reg [⟨.bin .add (.s 20) (.c (.int .i64 1)),none⟩,⟨.mv (.r 0),none⟩] [] [] [(20,1,none)])))
def ir_cand_look_ordersl2 : C :=
 .seq (.reg [⟨.bin .lss (.s 11) (.s 10),none⟩] [] [] [(12,0,none)])
 (.seq (.cond (.s 12) (.skip)
  (.exit 0))
 (.seq (.block 1 (.seq (.seq (.reg [⟨.mv (.s 11),none⟩,⟨.iaS 1 (.s 9) (.s 11),none⟩,⟨.load 0 false 1 (.r 1),none⟩,⟨.mv (.r 0),none⟩,⟨.mv (.r 2),none⟩] [] [] [(3,3,none),(4,4,none)])
  (.drop [12] []))
  (.seq (.reg [⟨.mkmap,none⟩,⟨.mv (.r 0),none⟩] [] [] [(5,1,none)])
  (.seq (.seq (.reg [⟨.off 5 (.s 1),none⟩,⟨.load 0 false 1 (.r 0),none⟩,⟨.len 1 (.r 1),none⟩,⟨.mv (.c (.int .i64 0)),none⟩] [] [] [(13,1,none),(14,2,none),(15,3,none)])
  (.block 2 (.loop ir_cand_look_ordersl0)))
  (.seq (.seq (.seq (.reg [⟨.mv (.s 4),none⟩,⟨.len 1 (.r 0),none⟩,⟨.mv (.c (.int .i64 0)),none⟩] [] [] [(18,0,none),(19,1,none),(20,2,none)])
  (.drop [3,4,13,14,15,16] []))
  (.block 4 (.loop ir_cand_look_ordersl1)))
  (.seq (.seq (.reg [⟨.mv (.s 5),none⟩,⟨.len 2 (.r 0),none⟩,⟨.bin .gtr (.r 1) (.c (.int .i64 0)),none⟩] [] [] [(23,2,none)])
  (.drop [5,18,19,20,21] []))
  (.cond (.s 23) (.seq (.seq (.reg [⟨.mv (.c (.bool true)),none⟩] [] [] [(2,0,none)])
   (.drop [1,9,10,11,23] [(true,0)]))
   (.ret))
   (.skip))))))))
 (.seq (.reg [⟨.bin .add (.s 11) (.c (.int .i64 1)),none⟩,⟨.mv (.r 0),none⟩] [] [] [(11,1,none)])
 (.drop [23] []))))
def ir_cand_look_orders : Vm.Fn := ⟨[0,1,2,3,4,5,7,9,11,14,15,16,17,23,24,25,26,35,41,42,43,44,50,56],2,0,[.slot 2],.seq (.seq (.reg [⟨.lbox 0 7 (.s 0),none⟩,⟨.mv (.c (.bool false)),none⟩] [(true,0)] [] [(1,0,some 1),(2,1,none)])
 (.drop [0,2] []))
 (.seq (.seq (.reg [⟨.off 0 (.s 1),none⟩,⟨.off 4 (.r 0),none⟩,⟨.load 0 false 1 (.r 1),none⟩,⟨.len 1 (.r 2),none⟩,⟨.mv (.c (.int .i64 0)),none⟩] [] [] [(9,2,none),(10,3,none),(11,4,none)])
 (.block 0 (.loop ir_cand_look_ordersl2)))
 (.seq (.seq (.reg [⟨.mv (.c (.bool false)),none⟩] [] [] [(2,0,none)])
 (.drop [1,9,10,11,12] [(true,0)]))
 (.ret)))⟩
def h72 : Vm.Hint := ⟨[0,1,2,4,5,6,7,8,9,12,13,14,16,17,18,19,33,63,72,73,81],[1,7],[],[[1,0],[0,0,0,0],[0],[0,0],[0],[0,0,0],[0],[0,0,0,2,0,0],[0,0,0,0,0,0],[0],[0,0,0,0,0,0],[0,0,0,0,0,0,0,0,0,0,0,0,0,0,0,0,0,0,0,0,0,0,0,0,0,0,0,0,0,0],[0],[0,0,0,0,0,0],[0,0,0,0],[0],[0,0,0,0,0,0,0],[0,0],[0,0,0],[0,0,0],[0],[0,0],[0,0],[0]],[([0,2],[]),([1],[(true,0)]),([],[]),([11],[]),([],[]),([],[]),([],[]),([15],[]),([],[]),([],[]),([],[]),([8,16],[]),([3,4,5,6,7,9,10,12,13,14,17],[(true,1)]),([17],[]),([8,16],[]),([3,4,5,6,7,9,10,12,13,14,18],[(true,1)]),([6,18],[(true,1)]),([5,7,19],[]),([5,19],[]),([7],[]),([7,20],[]),([7,20],[]),([3,4,12,13,14,15],[]),([9,10,11],[])],[]⟩
def ir_cand_look_pairsl0 : C :=
 .seq (.reg [⟨.bin .lss (.s 14) (.s 13),none⟩] [] [] [(15,0,none)])
 (.seq (.cond (.s 15) (.skip)
  (.exit 2))
 (.seq (.block 3 (.seq (.seq (.reg [⟨.mv (.s 14),none⟩,⟨.iaS 27 (.s 12) (.s 14),none⟩,⟨.load 0 true 27 (.r 1),none⟩,⟨.lalloc 1 zz1,none⟩,⟨.mv (.r 0),none⟩,⟨.store 0 27 (.r 3) (.r 2),none⟩] [(true,1)] [] [(5,4,none),(6,3,some 3)])
  (.drop [15] []))
  (.seq (.reg [⟨.off 0 (.s 6),none⟩,⟨.off 1 (.r 0),none⟩,⟨.off 0 (.r 1),none⟩,⟨.load 0 false 1 (.r 2),none⟩,⟨.call .val n_ops_Sort [(.r 3)],none⟩,⟨.mv (.r 4),none⟩] [] [] [(7,5,none)])
  (.seq (.reg [⟨.mv (.c (.int .i64 (-1))),none⟩] [] [] [(8,0,none)])
  (.seq (.seq (.reg [⟨.mv (.s 7),none⟩,⟨.bin .eql (.r 0) (.c (.int .i64 11)),none⟩,⟨.mv (.r 1),none⟩,⟨.load 0 true 27 (.s 6),some (2,true)⟩,⟨.call .val n_cand_isEvent [(.r 3)],some (2,true)⟩,⟨.pick (.r 2) (.r 4) (.c (.bool false)),none⟩] [] [] [(16,5,none)])
  (.cond (.s 16) (.seq (.seq (.seq (.reg [⟨.mv (.s 4),none⟩,⟨.bin .lss (.r 0) (.c (.int .i64 0)),none⟩,⟨.mv (.r 1),none⟩,⟨.mv (.s 3),some (2,false)⟩,⟨.mv (.s 4),some (2,false)⟩,⟨.iaS 27 (.r 3) (.r 4),some (2,false)⟩,⟨.off 0 (.r 5),some (2,false)⟩,⟨.off 12 (.r 6),some (2,false)⟩,⟨.load 0 false 1 (.r 7),some (2,false)⟩,⟨.off 0 (.s 6),some (2,false)⟩,⟨.off 12 (.r 9),some (2,false)⟩,⟨.load 0 false 1 (.r 10),some (2,false)⟩,⟨.bin .neq (.r 8) (.r 11),some (2,false)⟩,⟨.pick (.r 2) (.c (.bool true)) (.r 12),none⟩,⟨.mv (.r 13),none⟩,⟨.mv (.s 3),some (14,false)⟩,⟨.mv (.s 4),some (14,false)⟩,⟨.iaS 27 (.r 15) (.r 16),some (14,false)⟩,⟨.off 0 (.r 17),some (14,false)⟩,⟨.off 1 (.r 18),some (14,false)⟩,⟨.off 0 (.r 19),some (14,false)⟩,⟨.load 0 false 1 (.r 20),some (14,false)⟩,⟨.call .val n_ops_Size [(.r 21)],some (14,false)⟩,⟨.off 0 (.s 6),some (14,false)⟩,⟨.off 1 (.r 23),some (14,false)⟩,⟨.off 0 (.r 24),some (14,false)⟩,⟨.load 0 false 1 (.r 25),some (14,false)⟩,⟨.call .val n_ops_Size [(.r 26)],some (14,false)⟩,⟨.bin .neq (.r 22) (.r 27),some (14,false)⟩,⟨.pick (.r 14) (.c (.bool true)) (.r 28),none⟩] [] [(5,11),(8,11),(17,26),(21,26),(22,26)] [(17,29,none)])
   (.drop [8,16] []))
   (.cond (.s 17) (.seq (.seq (.reg [⟨.mv (.c (.bool true)),none⟩] [] [] [(2,0,none)])
    (.drop [3,4,5,6,7,9,10,12,13,14,17] [(true,1)]))
    (.ret))
    (.skip)))
   (.seq (.reg [⟨.mv (.s 3),none⟩,⟨.mv (.s 4),none⟩,⟨.iaS 27 (.r 0) (.r 1),none⟩,⟨.off 16 (.r 2),none⟩,⟨.load 0 false 1 (.r 3),none⟩,⟨.mv (.r 4),none⟩] [] [] [(8,5,none)])
   (.drop [17] [])))
   (.skip)))
  (.seq (.seq (.seq (.reg [⟨.off 26 (.s 6),none⟩,⟨.load 0 false 1 (.r 0),none⟩,⟨.mv (.s 8),none⟩,⟨.bin .neq (.r 1) (.r 2),none⟩] [] [] [(18,3,none)])
  (.drop [8,16] []))
  (.cond (.s 18) (.seq (.seq (.reg [⟨.mv (.c (.bool true)),none⟩] [] [] [(2,0,none)])
   (.drop [3,4,5,6,7,9,10,12,13,14,18] [(true,1)]))
   (.ret))
   (.skip)))
  (.block 4 (.seq (.seq (.reg [⟨.mv (.s 7),none⟩,⟨.bin .eql (.r 0) (.c (.int .i64 10)),none⟩,⟨.mv (.r 1),none⟩,⟨.load 0 true 27 (.s 6),some (2,true)⟩,⟨.call .val n_cand_isEvent [(.r 3)],some (2,true)⟩,⟨.pick (.r 2) (.r 4) (.c (.bool false)),none⟩,⟨.mv (.r 5),none⟩] [] [] [(19,6,none)])
   (.drop [6,18] [(true,1)]))
   (.cond (.s 19) (.seq (.reg [⟨.mv (.s 5),none⟩,⟨.mv (.r 0),none⟩] [] [] [(4,1,none)])
    (.drop [5,7,19] []))
    (.seq (.seq (.seq (.reg [⟨.mv (.s 7),none⟩,⟨.bin .eql (.r 0) (.c (.int .i64 10)),none⟩,⟨.mv (.r 1),none⟩] [] [] [(20,2,none)])
    (.drop [5,19] []))
    (.cond (.s 20) (.skip)
     (.seq (.reg [⟨.mv (.s 7),none⟩,⟨.bin .eql (.r 0) (.c (.int .i64 11)),none⟩,⟨.mv (.r 1),none⟩] [] [] [(20,2,none)])
     (.drop [7] []))))
    (.cond (.s 20) (.seq (.reg [⟨.mv (.c (.int .i64 (-1))),none⟩] [] [] [(4,0,none)])
     (.drop [7,20] []))
     (.skip))))))))))))
 (.seq (.reg [⟨.bin .add (.s 14) (.c (.int .i64 1)),none⟩,⟨.mv (.r 0),none⟩] [] [] [(14,1,none)])
 (.drop [7,20] []))))
def ir_cand_look_pairsl1 : C :=
 .seq (.reg [⟨.bin .lss (.s 10) (.c (.int .i64 3)),none⟩] [] [] [(11,0,none)])
 (.seq (.cond (.s 11) (.skip)
  (.exit 0))
 (.seq (.block 1 (.seq (.seq (.reg [⟨.ixA 3 1 false (.s 9) (.s 10),none⟩,⟨.mv (.r 0),none⟩] [] [] [(3,1,none)])
  (.drop [11] []))
  (.seq (.reg [⟨.mv (.c (.int .i64 (-1))),none⟩] [] [] [(4,0,none)])
  (.seq (.reg [⟨.mv (.s 3),none⟩,⟨.len 1 (.r 0),none⟩,⟨.mv (.c (.int .i64 0)),none⟩] [] [] [(12,0,none),(13,1,none),(14,2,none)])
  (.block 2 (.loop ir_cand_look_pairsl0))))))
 (.seq (.reg [⟨.bin .add (.s 10) (.c (.int .i64 1)),none⟩,⟨.mv (.r 0),none⟩] [] [] [(10,1,none)])
 (.drop [3,4,12,13,14,15] []))))
def ir_cand_look_pairs : Vm.Fn := ⟨[0,1,2,4,5,6,7,8,9,12,13,14,16,17,18,19,33,63,72,73,81],2,0,[.slot 2],.seq (.seq (.reg [⟨.lbox 0 7 (.s 0),none⟩,⟨.mv (.c (.bool false)),none⟩] [(true,0)] [] [(1,0,some 1),(2,1,none)])
 (.drop [0,2] []))
 (.seq (.seq (.seq (.reg [⟨.off 0 (.s 1),none⟩,⟨.off 1 (.r 0),none⟩,⟨.load 0 true 3 (.r 1),none⟩,⟨.mv (.c (.int .i64 0)),none⟩] [] [] [(9,2,none),(10,3,none)])
 (.drop [1] [(true,0)]))
 (.block 0 (.loop ir_cand_look_pairsl1)))
 (.seq (.seq (.reg [⟨.mv (.c (.bool false)),none⟩] [] [] [(2,0,none)])
 (.drop [9,10,11] []))
 (.ret)))⟩
def h73 : Vm.Hint := ⟨[0,2],[],[],[[0],[0,1,0]],[([1],[]),([0],[])],[]⟩
def ir_deps_Address : Vm.Fn := ⟨[0,2],0,0,[.slot 1],.seq (.seq (.reg [⟨.mv (.c (.nilp)),none⟩] [] [] [(1,0,none)])
 (.drop [1] []))
 (.seq (.seq (.reg [⟨.mv (.s 0),none⟩,⟨.call .heap n_deps_along [(.r 0),(.c (.fn 113 [] []))],none⟩,⟨.mv (.r 1),none⟩] [] [] [(1,2,none)])
 (.drop [0] []))
 (.ret))⟩
def h74 : Vm.Hint := ⟨[0,2],[],[],[[0],[0,1,0]],[([1],[]),([0],[])],[]⟩
def ir_deps_Data : Vm.Fn := ⟨[0,2],0,0,[.slot 1],.seq (.seq (.reg [⟨.mv (.c (.nilp)),none⟩] [] [] [(1,0,none)])
 (.drop [1] []))
 (.seq (.seq (.reg [⟨.mv (.s 0),none⟩,⟨.call .heap n_deps_along [(.r 0),(.c (.fn 116 [] []))],none⟩,⟨.mv (.r 1),none⟩] [] [] [(1,2,none)])
 (.drop [0] []))
 (.ret))⟩
def h75 : Vm.Hint := ⟨[0,2,3],[],[],[[0],[0],[0,0,1,0]],[([1],[]),([],[]),([0,2],[])],[]⟩
def ir_deps_Course : Vm.Fn := ⟨[0,2,3],0,0,[.slot 1],.seq (.seq (.reg [⟨.mv (.c (.nilp)),none⟩] [] [] [(1,0,none)])
 (.drop [1] []))
 (.seq (.reg [⟨.halloc zz2,none⟩] [] [] [(2,0,none)])
 (.seq (.seq (.reg [⟨.mv (.s 0),none⟩,⟨.mkfn 118 [] [(.s 2)],none⟩,⟨.call .heap n_deps_along [(.r 0),(.r 1)],none⟩,⟨.mv (.r 2),none⟩] [] [] [(1,3,none)])
 (.drop [0,2] []))
 (.ret)))⟩
def h76 : Vm.Hint := ⟨[0,1,2,6],[],[],[[0],[0,0,0,0,0,0,0,0,0,0,0,0,0,0,0,0,0,0,0,0,0,0,0,0,0,0]],[([3],[]),([0,1,2],[])],[]⟩
def ir_ppo_view_same : Vm.Fn := ⟨[0,1,2,6],0,0,[.slot 3],.seq (.seq (.reg [⟨.mv (.c (.bool false)),none⟩] [] [] [(3,0,none)])
 (.drop [3] []))
 (.seq (.seq (.reg [⟨.mv (.s 0),none⟩,⟨.nilck (.r 0),none⟩,⟨.off 0 (.r 1),none⟩,⟨.load 0 false 1 (.r 2),none⟩,⟨.mv (.s 2),none⟩,⟨.iaS 33 (.r 3) (.r 4),none⟩,⟨.off 30 (.r 5),none⟩,⟨.load 0 false 1 (.r 6),none⟩,⟨.mv (.r 7),none⟩,⟨.mv (.s 0),some (8,true)⟩,⟨.nilck (.r 9),some (8,true)⟩,⟨.off 0 (.r 10),some (8,true)⟩,⟨.load 0 false 1 (.r 11),some (8,true)⟩,⟨.mv (.s 1),some (8,true)⟩,⟨.iaS 33 (.r 12) (.r 13),some (8,true)⟩,⟨.load 0 true 33 (.r 14),some (8,true)⟩,⟨.mv (.s 0),some (8,true)⟩,⟨.nilck (.r 16),some (8,true)⟩,⟨.off 0 (.r 17),some (8,true)⟩,⟨.load 0 false 1 (.r 18),some (8,true)⟩,⟨.mv (.s 2),some (8,true)⟩,⟨.iaS 33 (.r 19) (.r 20),some (8,true)⟩,⟨.load 0 true 33 (.r 21),some (8,true)⟩,⟨.call .val n_ppo_overlap [(.r 15),(.r 22)],some (8,true)⟩,⟨.pick (.r 8) (.r 23) (.c (.bool false)),none⟩,⟨.mv (.r 24),none⟩] [] [(12,19),(12,21),(12,22),(14,19),(14,21),(14,22),(15,19),(15,21),(15,22)] [(3,25,none)])
 (.drop [0,1,2] []))
 (.ret))⟩
def h77 : Vm.Hint := ⟨[0,1,2,6,7,8,9,10,12,40,42,43,44,69,73,74,75,76,85],[7,8,12],[],[[0],[0,0,0,0,0,0,0,0,0,0,0,0,0,0,1,2,0,0],[0,0,0,0,0,0,0,0,0,0,0,0,0,0],[0],[0,0,0],[0],[0,0],[0,0,0,0,0],[0,0,0,0,0,0,0,0,0,0,0,0,0,0,0,0,0,0,0,0],[0,0,0,0,0,0],[0],[0,0,3,0],[0,0,0,0,0,0,0],[0,0],[0],[0,0],[0]],[([3],[]),([],[]),([],[]),([0,1,2,4,5,9],[(true,0),(true,1)]),([9],[]),([],[]),([12],[]),([],[]),([6],[]),([13],[]),([],[]),([17],[]),([8],[(true,2)]),([18],[]),([0,1,2,4,5,7,10,11,14,15,16,17],[(true,0),(true,1)]),([7,13,14,15,16,18],[]),([0,1,2,4,5,10,11,12],[(true,0),(true,1)])],[]⟩
def ir_ppo_view_loadsl0 : C :=
 .seq (.reg [⟨.bin .lss (.s 16) (.s 15),none⟩] [] [] [(17,0,none)])
 (.seq (.cond (.s 17) (.skip)
  (.exit 2))
 (.seq (.block 3 (.seq (.seq (.reg [⟨.iaS 33 (.s 14) (.s 16),none⟩,⟨.load 0 true 33 (.r 0),none⟩,⟨.lalloc 2 zz0,none⟩,⟨.store 0 33 (.r 2) (.r 1),none⟩] [(true,2)] [] [(8,2,some 5)])
  (.drop [17] []))
  (.seq (.seq (.reg [⟨.off 30 (.s 8),none⟩,⟨.load 0 false 1 (.r 0),none⟩,⟨.mv (.r 1),none⟩,⟨.load 0 true 33 (.s 8),some (2,true)⟩,⟨.mv (.s 7),some (2,true)⟩,⟨.call .val n_ppo_has [(.r 3),(.r 4)],some (2,true)⟩,⟨.pick (.r 2) (.r 5) (.c (.bool false)),none⟩] [] [] [(18,6,none)])
  (.drop [8] [(true,2)]))
  (.cond (.s 18) (.exit 1)
   (.skip)))))
 (.seq (.reg [⟨.bin .add (.s 16) (.c (.int .i64 1)),none⟩,⟨.mv (.r 0),none⟩] [] [] [(16,1,none)])
 (.drop [18] []))))
def ir_ppo_view_loadsl1 : C :=
 .seq (.reg [⟨.bin .lss (.s 11) (.s 10),none⟩] [] [] [(12,0,none)])
 (.seq (.cond (.s 12) (.skip)
  (.exit 0))
 (.seq (.block 1 (.seq (.seq (.reg [⟨.mv (.s 11),none⟩,⟨.mv (.r 0),none⟩] [] [] [(6,1,none)])
  (.drop [12] []))
  (.seq (.reg [⟨.off 31 (.s 4),none⟩,⟨.load 0 false 1 (.r 0),none⟩,⟨.mv (.s 6),none⟩,⟨.bin .add (.r 1) (.r 2),none⟩,⟨.mv (.r 3),none⟩] [] [] [(7,4,none)])
  (.seq (.seq (.seq (.reg [⟨.load 0 true 33 (.s 5),none⟩,⟨.mv (.s 7),none⟩,⟨.call .val n_ppo_has [(.r 0),(.r 1)],none⟩,⟨.un .not (.r 2),none⟩,⟨.mv (.r 3),none⟩,⟨.mv (.s 6),some (4,false)⟩,⟨.off 2 (.s 4),some (4,false)⟩,⟨.off 18 (.r 6),some (4,false)⟩,⟨.iaA 8 1 (.r 7) (.r 5),some (4,false)⟩,⟨.load 0 false 1 (.r 8),some (4,false)⟩,⟨.mv (.s 7),some (4,false)⟩,⟨.off 31 (.s 5),some (4,false)⟩,⟨.load 0 false 1 (.r 11),some (4,false)⟩,⟨.bin .sub (.r 10) (.r 12),some (4,false)⟩,⟨.off 2 (.s 5),some (4,false)⟩,⟨.off 18 (.r 14),some (4,false)⟩,⟨.iaA 8 1 (.r 15) (.r 13),some (4,false)⟩,⟨.load 0 false 1 (.r 16),some (4,false)⟩,⟨.bin .eql (.r 9) (.r 17),some (4,false)⟩,⟨.pick (.r 4) (.c (.bool true)) (.r 18),none⟩] [] [(9,12),(9,17)] [(13,19,none)])
  (.drop [6] []))
  (.cond (.s 13) (.exit 1)
   (.skip)))
  (.seq (.seq (.seq (.reg [⟨.mv (.s 0),none⟩,⟨.mv (.s 1),none⟩,⟨.mv (.s 2),none⟩,⟨.call .val n_ppo_view_between [(.r 0),(.r 1),(.r 2)],none⟩,⟨.len 1 (.r 3),none⟩,⟨.mv (.c (.int .i64 0)),none⟩] [] [] [(14,3,none),(15,4,none),(16,5,none)])
  (.drop [13] []))
  (.block 2 (.loop ir_ppo_view_loadsl0)))
  (.seq (.seq (.reg [⟨.mv (.c (.bool true)),none⟩] [] [] [(3,0,none)])
  (.drop [0,1,2,4,5,7,10,11,14,15,16,17] [(true,0),(true,1)]))
  (.ret)))))))
 (.seq (.reg [⟨.bin .add (.s 11) (.c (.int .i64 1)),none⟩,⟨.mv (.r 0),none⟩] [] [] [(11,1,none)])
 (.drop [7,13,14,15,16,18] []))))
def ir_ppo_view_loads : Vm.Fn := ⟨[0,1,2,6,7,8,9,10,12,40,42,43,44,69,73,74,75,76,85],3,0,[.slot 3],.seq (.seq (.reg [⟨.mv (.c (.bool false)),none⟩] [] [] [(3,0,none)])
 (.drop [3] []))
 (.seq (.reg [⟨.mv (.s 0),none⟩,⟨.nilck (.r 0),none⟩,⟨.off 0 (.r 1),none⟩,⟨.load 0 false 1 (.r 2),none⟩,⟨.mv (.s 1),none⟩,⟨.iaS 33 (.r 3) (.r 4),none⟩,⟨.load 0 true 33 (.r 5),none⟩,⟨.mv (.s 0),none⟩,⟨.nilck (.r 7),none⟩,⟨.off 0 (.r 8),none⟩,⟨.load 0 false 1 (.r 9),none⟩,⟨.mv (.s 2),none⟩,⟨.iaS 33 (.r 10) (.r 11),none⟩,⟨.load 0 true 33 (.r 12),none⟩,⟨.lalloc 0 zz0,none⟩,⟨.lalloc 1 zz0,none⟩,⟨.store 0 33 (.r 14) (.r 6),none⟩,⟨.store 0 33 (.r 15) (.r 13),none⟩] [(true,0),(true,1)] [(3,10),(3,12),(3,13),(3,14),(3,15),(5,10),(5,12),(5,13),(5,14),(5,15),(6,10),(6,12),(6,13),(6,14),(6,15),(10,14),(10,15),(10,16),(12,14),(12,15),(12,16),(13,14),(13,15),(13,16),(14,15)] [(4,14,some 1),(5,15,some 3)])
 (.seq (.seq (.reg [⟨.off 29 (.s 4),none⟩,⟨.load 0 false 1 (.r 0),none⟩,⟨.un .not (.r 1),none⟩,⟨.mv (.r 2),none⟩,⟨.off 29 (.s 5),some (3,false)⟩,⟨.load 0 false 1 (.r 4),some (3,false)⟩,⟨.un .not (.r 5),some (3,false)⟩,⟨.pick (.r 3) (.c (.bool true)) (.r 6),none⟩,⟨.mv (.r 7),none⟩,⟨.load 0 true 33 (.s 4),some (8,false)⟩,⟨.load 0 true 33 (.s 5),some (8,false)⟩,⟨.call .val n_ppo_overlap [(.r 9),(.r 10)],some (8,false)⟩,⟨.un .not (.r 11),some (8,false)⟩,⟨.pick (.r 8) (.c (.bool true)) (.r 12),none⟩] [] [] [(9,13,none)])
 (.cond (.s 9) (.seq (.seq (.reg [⟨.mv (.c (.bool false)),none⟩] [] [] [(3,0,none)])
  (.drop [0,1,2,4,5,9] [(true,0),(true,1)]))
  (.ret))
  (.skip)))
 (.seq (.seq (.seq (.reg [⟨.off 32 (.s 4),none⟩,⟨.load 0 false 1 (.r 0),none⟩,⟨.mv (.c (.int .i64 0)),none⟩] [] [] [(10,1,none),(11,2,none)])
 (.drop [9] []))
 (.block 0 (.loop ir_ppo_view_loadsl1)))
 (.seq (.seq (.reg [⟨.mv (.c (.bool false)),none⟩] [] [] [(3,0,none)])
 (.drop [0,1,2,4,5,10,11,12] [(true,0),(true,1)]))
 (.ret)))))⟩
def h78 : Vm.Hint := ⟨[0,1,2,6,18,19],[],[],[[0],[0,0,0,0,0,0,0,0,0,0,0,0],[0,0],[0,0],[0,0,0,0,0,0,0,0,0,0,0,0,0,0,0,0,0,0],[0]],[([3],[]),([],[]),([],[]),([4],[]),([0,1,2,4,5],[]),([0,1,2,4,5],[])],[]⟩
def ir_ppo_view_written : Vm.Fn := ⟨[0,1,2,6,18,19],0,0,[.slot 3],.seq (.seq (.reg [⟨.mv (.c (.bool false)),none⟩] [] [] [(3,0,none)])
 (.drop [3] []))
 (.seq (.seq (.reg [⟨.mv (.s 0),none⟩,⟨.nilck (.r 0),none⟩,⟨.off 0 (.r 1),none⟩,⟨.load 0 false 1 (.r 2),none⟩,⟨.mv (.s 1),none⟩,⟨.iaS 33 (.r 3) (.r 4),none⟩,⟨.off 2 (.r 5),none⟩,⟨.off 0 (.r 6),none⟩,⟨.off 1 (.r 7),none⟩,⟨.off 0 (.r 8),none⟩,⟨.load 0 false 1 (.r 9),none⟩,⟨.call .val n_ops_Sort [(.r 10)],none⟩] [] [] [(4,11,none)])
 (.block 0 (.seq (.seq (.reg [⟨.bin .eql (.s 4) (.c (.int .i64 11)),none⟩,⟨.mv (.r 0),none⟩] [] [] [(5,1,none)])
  (.cond (.s 5) (.skip)
   (.seq (.reg [⟨.bin .eql (.s 4) (.c (.int .i64 12)),none⟩,⟨.mv (.r 0),none⟩] [] [] [(5,1,none)])
   (.drop [4] []))))
  (.cond (.s 5) (.seq (.seq (.reg [⟨.mv (.s 0),none⟩,⟨.nilck (.r 0),none⟩,⟨.off 0 (.r 1),none⟩,⟨.load 0 false 1 (.r 2),none⟩,⟨.mv (.s 2),none⟩,⟨.iaS 33 (.r 3) (.r 4),none⟩,⟨.load 0 true 33 (.r 5),none⟩,⟨.mv (.s 0),none⟩,⟨.nilck (.r 7),none⟩,⟨.off 0 (.r 8),none⟩,⟨.load 0 false 1 (.r 9),none⟩,⟨.mv (.s 1),none⟩,⟨.iaS 33 (.r 10) (.r 11),none⟩,⟨.off 2 (.r 12),none⟩,⟨.off 16 (.r 13),none⟩,⟨.load 0 false 1 (.r 14),none⟩,⟨.call .val n_ppo_returns [(.r 6),(.r 15)],none⟩,⟨.mv (.r 16),none⟩] [] [(3,10),(3,12),(3,15),(5,10),(5,12),(5,15),(6,10),(6,12),(6,15)] [(3,17,none)])
   (.drop [0,1,2,4,5] []))
   (.ret))
   (.skip)))))
 (.seq (.seq (.reg [⟨.mv (.c (.bool false)),none⟩] [] [] [(3,0,none)])
 (.drop [0,1,2,4,5] []))
 (.ret)))⟩
def h79 : Vm.Hint := ⟨[0,1,2,6,7,8,10,38,39,40,41,63],[7,8,10],[],[[0],[0,0,0,0,0,0,0,0,0,0,0,0,0,0,1,2,0,0],[0,0,0,0,0,0,0,0,0,0,0,0,0,0,0,0],[0],[0,0,3,0],[0,0,0,0,0,0,0,0,0,0,0,0,0,0,0,0,0,0,0,0],[0],[0,0],[0]],[([3],[]),([1,2],[]),([0],[]),([],[]),([10],[]),([6],[(true,2)]),([4,5,7,8,9,11],[(true,0),(true,1)]),([11],[]),([4,5,7,8,9,10],[(true,0),(true,1)])],[]⟩
def ir_ppo_view_fencedl0 : C :=
 .seq (.reg [⟨.bin .lss (.s 9) (.s 8),none⟩] [] [] [(10,0,none)])
 (.seq (.cond (.s 10) (.skip)
  (.exit 0))
 (.seq (.block 1 (.seq (.seq (.reg [⟨.iaS 27 (.s 7) (.s 9),none⟩,⟨.load 0 true 27 (.r 0),none⟩,⟨.lalloc 2 zz1,none⟩,⟨.store 0 27 (.r 2) (.r 1),none⟩] [(true,2)] [] [(6,2,some 5)])
  (.drop [10] []))
  (.seq (.seq (.reg [⟨.off 0 (.s 6),none⟩,⟨.off 1 (.r 0),none⟩,⟨.off 0 (.r 1),none⟩,⟨.load 0 false 1 (.r 2),none⟩,⟨.call .val n_ops_Sort [(.r 3)],none⟩,⟨.bin .eql (.r 4) (.c (.int .i64 8)),none⟩,⟨.mv (.r 5),none⟩,⟨.off 0 (.s 6),some (6,true)⟩,⟨.off 10 (.r 7),some (6,true)⟩,⟨.load 0 false 1 (.r 8),some (6,true)⟩,⟨.bin .eql (.r 9) (.c (.int .i64 0)),some (6,true)⟩,⟨.pick (.r 6) (.r 10) (.c (.bool false)),none⟩,⟨.mv (.r 11),none⟩,⟨.off 0 (.s 6),some (12,true)⟩,⟨.off 1 (.r 13),some (12,true)⟩,⟨.load 0 true 9 (.r 14),some (12,true)⟩,⟨.load 0 true 33 (.s 4),some (12,true)⟩,⟨.load 0 true 33 (.s 5),some (12,true)⟩,⟨.call .val n_ppo_orders [(.r 15),(.r 16),(.r 17)],some (12,true)⟩,⟨.pick (.r 12) (.r 18) (.c (.bool false)),none⟩] [] [] [(11,19,none)])
  (.drop [6] [(true,2)]))
  (.cond (.s 11) (.seq (.seq (.reg [⟨.mv (.c (.bool true)),none⟩] [] [] [(3,0,none)])
   (.drop [4,5,7,8,9,11] [(true,0),(true,1)]))
   (.ret))
   (.skip)))))
 (.seq (.reg [⟨.bin .add (.s 9) (.c (.int .i64 1)),none⟩,⟨.mv (.r 0),none⟩] [] [] [(9,1,none)])
 (.drop [11] []))))
def ir_ppo_view_fenced : Vm.Fn := ⟨[0,1,2,6,7,8,10,38,39,40,41,63],3,0,[.slot 3],.seq (.seq (.reg [⟨.mv (.c (.bool false)),none⟩] [] [] [(3,0,none)])
 (.drop [3] []))
 (.seq (.seq (.reg [⟨.mv (.s 0),none⟩,⟨.nilck (.r 0),none⟩,⟨.off 0 (.r 1),none⟩,⟨.load 0 false 1 (.r 2),none⟩,⟨.mv (.s 1),none⟩,⟨.iaS 33 (.r 3) (.r 4),none⟩,⟨.load 0 true 33 (.r 5),none⟩,⟨.mv (.s 0),none⟩,⟨.nilck (.r 7),none⟩,⟨.off 0 (.r 8),none⟩,⟨.load 0 false 1 (.r 9),none⟩,⟨.mv (.s 2),none⟩,⟨.iaS 33 (.r 10) (.r 11),none⟩,⟨.load 0 true 33 (.r 12),none⟩,⟨.lalloc 0 zz0,none⟩,⟨.lalloc 1 zz0,none⟩,⟨.store 0 33 (.r 14) (.r 6),none⟩,⟨.store 0 33 (.r 15) (.r 13),none⟩] [(true,0),(true,1)] [(3,10),(3,12),(3,13),(3,14),(3,15),(5,10),(5,12),(5,13),(5,14),(5,15),(6,10),(6,12),(6,13),(6,14),(6,15),(10,14),(10,15),(10,16),(12,14),(12,15),(12,16),(13,14),(13,15),(13,16),(14,15)] [(4,14,some 1),(5,15,some 3)])
 (.drop [1,2] []))
 (.seq (.seq (.seq (.reg [⟨.mv (.s 0),none⟩,⟨.off 0 (.s 4),none⟩,⟨.load 0 false 1 (.r 1),none⟩,⟨.nilck (.r 0),none⟩,⟨.off 1 (.r 3),none⟩,⟨.iaA 3 4 (.r 4) (.r 2),none⟩,⟨.off 0 (.r 5),none⟩,⟨.load 0 false 1 (.r 6),none⟩,⟨.off 1 (.s 4),none⟩,⟨.load 0 false 1 (.r 8),none⟩,⟨.bin .add (.r 9) (.c (.int .i64 1)),none⟩,⟨.off 1 (.s 5),none⟩,⟨.load 0 false 1 (.r 11),none⟩,⟨.slc 27 (.r 7) (some (.r 10)) (some (.r 12)) none,none⟩,⟨.len 1 (.r 13),none⟩,⟨.mv (.c (.int .i64 0)),none⟩] [] [(2,9),(2,12),(7,9),(7,12),(9,12)] [(7,13,none),(8,14,none),(9,15,none)])
 (.drop [0] []))
 (.block 0 (.loop ir_ppo_view_fencedl0)))
 (.seq (.seq (.reg [⟨.mv (.c (.bool false)),none⟩] [] [] [(3,0,none)])
 (.drop [4,5,7,8,9,10] [(true,0),(true,1)]))
 (.ret))))⟩
def h80 : Vm.Hint := ⟨[0,1,6],[],[],[[0],[0,0,0,0,0,0,0,0,0,0,0,0]],[([2],[]),([0,1],[])],[]⟩
def ir_ppo_rules_1 : Vm.Fn := ⟨[0,1,6],0,0,[.slot 2],.seq (.seq (.reg [⟨.mv (.c (.bool false)),none⟩] [] [] [(2,0,none)])
 (.drop [2] []))
 (.seq (.seq (.reg [⟨.mv (.s 0),none⟩,⟨.nilck (.r 0),none⟩,⟨.off 0 (.r 1),none⟩,⟨.load 0 false 1 (.r 2),none⟩,⟨.mv (.s 1),none⟩,⟨.iaS 33 (.r 3) (.r 4),none⟩,⟨.off 2 (.r 5),none⟩,⟨.off 0 (.r 6),none⟩,⟨.off 1 (.r 7),none⟩,⟨.off 5 (.r 8),none⟩,⟨.load 0 false 1 (.r 9),none⟩,⟨.mv (.r 10),none⟩] [] [] [(2,11,none)])
 (.drop [0,1] []))
 (.ret))⟩
def h81 : Vm.Hint := ⟨[0,2,6],[],[],[[0],[0,0,0,0,0,0,0,0,0,0,0,0]],[([2],[]),([0,1],[])],[]⟩
def ir_ppo_rules_2 : Vm.Fn := ⟨[0,2,6],0,0,[.slot 2],.seq (.seq (.reg [⟨.mv (.c (.bool false)),none⟩] [] [] [(2,0,none)])
 (.drop [2] []))
 (.seq (.seq (.reg [⟨.mv (.s 0),none⟩,⟨.nilck (.r 0),none⟩,⟨.off 0 (.r 1),none⟩,⟨.load 0 false 1 (.r 2),none⟩,⟨.mv (.s 1),none⟩,⟨.iaS 33 (.r 3) (.r 4),none⟩,⟨.off 2 (.r 5),none⟩,⟨.off 0 (.r 6),none⟩,⟨.off 1 (.r 7),none⟩,⟨.off 6 (.r 8),none⟩,⟨.load 0 false 1 (.r 9),none⟩,⟨.mv (.r 10),none⟩] [] [] [(2,11,none)])
 (.drop [0,1] []))
 (.ret))⟩
def h82 : Vm.Hint := ⟨[0,1,2,6],[],[],[[0],[0,0,0,0,0,0,0,0,0,0,0,0,0,0,0,0,0,0,0]],[([3],[]),([0,1,2],[])],[]⟩
def ir_ppo_rules_3 : Vm.Fn := ⟨[0,1,2,6],0,0,[.slot 3],.seq (.seq (.reg [⟨.mv (.c (.bool false)),none⟩] [] [] [(3,0,none)])
 (.drop [3] []))
 (.seq (.seq (.reg [⟨.mv (.s 0),none⟩,⟨.nilck (.r 0),none⟩,⟨.off 0 (.r 1),none⟩,⟨.load 0 false 1 (.r 2),none⟩,⟨.mv (.s 1),none⟩,⟨.iaS 33 (.r 3) (.r 4),none⟩,⟨.load 0 true 33 (.r 5),none⟩,⟨.call .val n_ppo_strong [(.r 6)],none⟩,⟨.mv (.r 7),none⟩,⟨.mv (.s 0),some (8,true)⟩,⟨.nilck (.r 9),some (8,true)⟩,⟨.off 0 (.r 10),some (8,true)⟩,⟨.load 0 false 1 (.r 11),some (8,true)⟩,⟨.mv (.s 2),some (8,true)⟩,⟨.iaS 33 (.r 12) (.r 13),some (8,true)⟩,⟨.load 0 true 33 (.r 14),some (8,true)⟩,⟨.call .val n_ppo_strong [(.r 15)],some (8,true)⟩,⟨.pick (.r 8) (.r 16) (.c (.bool false)),none⟩,⟨.mv (.r 17),none⟩] [] [] [(3,18,none)])
 (.drop [0,1,2] []))
 (.ret))⟩
def h83 : Vm.Hint := ⟨[0,1,2],[1],[],[[1,0],[0,0,0,0,0,0,0,0,0,0,0,0,0]],[([0,2],[]),([1],[(true,0)])],[]⟩
def ir_ppo_strong : Vm.Fn := ⟨[0,1,2],1,0,[.slot 2],.seq (.seq (.reg [⟨.lbox 0 33 (.s 0),none⟩,⟨.mv (.c (.bool false)),none⟩] [(true,0)] [] [(1,0,some 1),(2,1,none)])
 (.drop [0,2] []))
 (.seq (.seq (.reg [⟨.off 2 (.s 1),none⟩,⟨.off 0 (.r 0),none⟩,⟨.off 1 (.r 1),none⟩,⟨.off 5 (.r 2),none⟩,⟨.load 0 false 1 (.r 3),none⟩,⟨.mv (.r 4),none⟩,⟨.off 2 (.s 1),some (5,false)⟩,⟨.off 0 (.r 6),some (5,false)⟩,⟨.off 1 (.r 7),some (5,false)⟩,⟨.off 6 (.r 8),some (5,false)⟩,⟨.load 0 false 1 (.r 9),some (5,false)⟩,⟨.pick (.r 5) (.c (.bool true)) (.r 10),none⟩,⟨.mv (.r 11),none⟩] [] [] [(2,12,none)])
 (.drop [1] [(true,0)]))
 (.ret))⟩
def h84 : Vm.Hint := ⟨[0,1,2,6,7,8],[7,8],[],[[0],[0,0,0,0,0,0,0,0,0,0,0,0,0,0,0,0,1,2,0,0],[0,0,0,0,0,0,0,0,0,0,0,0,0,0,0,0,0,0,0,0,0,0]],[([3],[]),([0,1,2],[]),([4,5],[(true,0),(true,1)])],[]⟩
def ir_ppo_view_paired : Vm.Fn := ⟨[0,1,2,6,7,8],2,0,[.slot 3],.seq (.seq (.reg [⟨.mv (.c (.bool false)),none⟩] [] [] [(3,0,none)])
 (.drop [3] []))
 (.seq (.seq (.reg [⟨.mv (.s 0),none⟩,⟨.nilck (.r 0),none⟩,⟨.off 0 (.r 1),none⟩,⟨.load 0 false 1 (.r 2),none⟩,⟨.mv (.s 1),none⟩,⟨.iaS 33 (.r 3) (.r 4),none⟩,⟨.off 2 (.r 5),none⟩,⟨.load 0 true 27 (.r 6),none⟩,⟨.mv (.s 0),none⟩,⟨.nilck (.r 8),none⟩,⟨.off 0 (.r 9),none⟩,⟨.load 0 false 1 (.r 10),none⟩,⟨.mv (.s 2),none⟩,⟨.iaS 33 (.r 11) (.r 12),none⟩,⟨.off 2 (.r 13),none⟩,⟨.load 0 true 27 (.r 14),none⟩,⟨.lalloc 0 zz1,none⟩,⟨.lalloc 1 zz1,none⟩,⟨.store 0 27 (.r 16) (.r 7),none⟩,⟨.store 0 27 (.r 17) (.r 15),none⟩] [(true,0),(true,1)] [(3,11),(3,13),(3,15),(3,16),(3,17),(5,11),(5,13),(5,15),(5,16),(5,17),(7,11),(7,13),(7,15),(7,16),(7,17),(11,16),(11,17),(11,18),(13,16),(13,17),(13,18),(15,16),(15,17),(15,18),(16,17)] [(4,16,some 1),(5,17,some 3)])
 (.drop [0,1,2] []))
 (.seq (.seq (.reg [⟨.off 0 (.s 5),none⟩,⟨.off 1 (.r 0),none⟩,⟨.off 0 (.r 1),none⟩,⟨.load 0 false 1 (.r 2),none⟩,⟨.call .val n_ops_Sort [(.r 3)],none⟩,⟨.bin .eql (.r 4) (.c (.int .i64 11)),none⟩,⟨.mv (.r 5),none⟩,⟨.off 0 (.s 4),some (6,true)⟩,⟨.off 1 (.r 7),some (6,true)⟩,⟨.off 0 (.r 8),some (6,true)⟩,⟨.load 0 false 1 (.r 9),some (6,true)⟩,⟨.call .val n_ops_Sort [(.r 10)],some (6,true)⟩,⟨.bin .eql (.r 11) (.c (.int .i64 10)),some (6,true)⟩,⟨.pick (.r 6) (.r 12) (.c (.bool false)),none⟩,⟨.mv (.r 13),none⟩,⟨.off 26 (.s 5),some (14,true)⟩,⟨.load 0 false 1 (.r 15),some (14,true)⟩,⟨.off 16 (.s 4),some (14,true)⟩,⟨.load 0 false 1 (.r 17),some (14,true)⟩,⟨.bin .eql (.r 16) (.r 18),some (14,true)⟩,⟨.pick (.r 14) (.r 19) (.c (.bool false)),none⟩,⟨.mv (.r 20),none⟩] [] [] [(3,21,none)])
 (.drop [4,5] [(true,0),(true,1)]))
 (.ret)))⟩
def h85 : Vm.Hint := ⟨[0,1,2,6],[],[],[[0],[0,0,0,0,0]],[([3],[]),([0,1,2],[])],[]⟩
def ir_ppo_rules_4 : Vm.Fn := ⟨[0,1,2,6],0,0,[.slot 3],.seq (.seq (.reg [⟨.mv (.c (.bool false)),none⟩] [] [] [(3,0,none)])
 (.drop [3] []))
 (.seq (.seq (.reg [⟨.mv (.s 0),none⟩,⟨.mv (.s 1),none⟩,⟨.mv (.s 2),none⟩,⟨.call .val n_ppo_view_hangs [(.r 0),(.c (.fn 87 [] [])),(.r 1),(.r 2)],none⟩,⟨.mv (.r 3),none⟩] [] [] [(3,4,none)])
 (.drop [0,1,2] []))
 (.ret))⟩
def h86 : Vm.Hint := ⟨[0,1,2,3,8],[],[],[[0],[0,0,0,0,0,0,0,0,0,0,0,0,0,0,0,0,0,0,0,0,0,0,0,0,0,0,0,0,0,0,0,0,0]],[([4],[]),([0,1,2,3],[])],[]⟩
def ir_ppo_view_hangs : Vm.Fn := ⟨[0,1,2,3,8],0,0,[.slot 4],.seq (.seq (.reg [⟨.mv (.c (.bool false)),none⟩] [] [] [(4,0,none)])
 (.drop [4] []))
 (.seq (.seq (.reg [⟨.mv (.s 1),none⟩,⟨.mv (.s 0),none⟩,⟨.mv (.s 0),none⟩,⟨.nilck (.r 2),none⟩,⟨.off 0 (.r 3),none⟩,⟨.load 0 false 1 (.r 4),none⟩,⟨.mv (.s 2),none⟩,⟨.iaS 33 (.r 5) (.r 6),none⟩,⟨.off 0 (.r 7),none⟩,⟨.load 0 false 1 (.r 8),none⟩,⟨.nilck (.r 1),none⟩,⟨.off 1 (.r 10),none⟩,⟨.iaA 3 4 (.r 11) (.r 9),none⟩,⟨.load 0 true 4 (.r 12),none⟩,⟨.callv .val (.r 0) [(.r 13)],none⟩,⟨.mv (.s 0),none⟩,⟨.nilck (.r 15),none⟩,⟨.off 0 (.r 16),none⟩,⟨.load 0 false 1 (.r 17),none⟩,⟨.mv (.s 2),none⟩,⟨.iaS 33 (.r 18) (.r 19),none⟩,⟨.off 1 (.r 20),none⟩,⟨.load 0 false 1 (.r 21),none⟩,⟨.mv (.s 0),none⟩,⟨.nilck (.r 23),none⟩,⟨.off 0 (.r 24),none⟩,⟨.load 0 false 1 (.r 25),none⟩,⟨.mv (.s 3),none⟩,⟨.iaS 33 (.r 26) (.r 27),none⟩,⟨.off 1 (.r 28),none⟩,⟨.load 0 false 1 (.r 29),none⟩,⟨.call .val n_rel_Rel_Has [(.r 14),(.r 22),(.r 30)],none⟩,⟨.mv (.r 31),none⟩] [] [(5,18),(5,20),(5,22),(5,26),(5,28),(5,30),(7,18),(7,20),(7,22),(7,26),(7,28),(7,30),(9,18),(9,20),(9,22),(9,26),(9,28),(9,30),(13,18),(13,20),(13,22),(13,26),(13,28),(13,30),(14,18),(14,20),(14,22),(14,26),(14,28),(14,30),(18,26),(18,28),(18,30),(20,26),(20,28),(20,30),(22,26),(22,28),(22,30)] [(4,32,none)])
 (.drop [0,1,2,3] []))
 (.ret))⟩
def h87 : Vm.Hint := ⟨[0,1,2],[1],[],[[1,0],[0,0,0]],[([0,2],[]),([1],[(true,0)])],[]⟩
def ir_ppo_byAddress : Vm.Fn := ⟨[0,1,2],1,0,[.slot 2],.seq (.seq (.reg [⟨.lbox 0 4 (.s 0),none⟩,⟨.mv (.c (.nilp)),none⟩] [(true,0)] [] [(1,0,some 1),(2,1,none)])
 (.drop [0,2] []))
 (.seq (.seq (.reg [⟨.off 1 (.s 1),none⟩,⟨.load 0 false 1 (.r 0),none⟩,⟨.mv (.r 1),none⟩] [] [] [(2,2,none)])
 (.drop [1] [(true,0)]))
 (.ret))⟩
def h88 : Vm.Hint := ⟨[0,1,2,6],[],[],[[0],[0,0,0,0,0]],[([3],[]),([0,1,2],[])],[]⟩
def ir_ppo_rules_5 : Vm.Fn := ⟨[0,1,2,6],0,0,[.slot 3],.seq (.seq (.reg [⟨.mv (.c (.bool false)),none⟩] [] [] [(3,0,none)])
 (.drop [3] []))
 (.seq (.seq (.reg [⟨.mv (.s 0),none⟩,⟨.mv (.s 1),none⟩,⟨.mv (.s 2),none⟩,⟨.call .val n_ppo_view_hangs [(.r 0),(.c (.fn 89 [] [])),(.r 1),(.r 2)],none⟩,⟨.mv (.r 3),none⟩] [] [] [(3,4,none)])
 (.drop [0,1,2] []))
 (.ret))⟩
def h89 : Vm.Hint := ⟨[0,1,2],[1],[],[[1,0],[0,0,0]],[([0,2],[]),([1],[(true,0)])],[]⟩
def ir_ppo_byData : Vm.Fn := ⟨[0,1,2],1,0,[.slot 2],.seq (.seq (.reg [⟨.lbox 0 4 (.s 0),none⟩,⟨.mv (.c (.nilp)),none⟩] [(true,0)] [] [(1,0,some 1),(2,1,none)])
 (.drop [0,2] []))
 (.seq (.seq (.reg [⟨.off 2 (.s 1),none⟩,⟨.load 0 false 1 (.r 0),none⟩,⟨.mv (.r 1),none⟩] [] [] [(2,2,none)])
 (.drop [1] [(true,0)]))
 (.ret))⟩
def h90 : Vm.Hint := ⟨[0,1,2,6],[],[],[[0],[0,0,0,0,0,0,0,0,0,0,0,0,0,0,0]],[([3],[]),([0,1,2],[])],[]⟩
def ir_ppo_rules_6 : Vm.Fn := ⟨[0,1,2,6],0,0,[.slot 3],.seq (.seq (.reg [⟨.mv (.c (.bool false)),none⟩] [] [] [(3,0,none)])
 (.drop [3] []))
 (.seq (.seq (.reg [⟨.mv (.s 0),none⟩,⟨.nilck (.r 0),none⟩,⟨.off 0 (.r 1),none⟩,⟨.load 0 false 1 (.r 2),none⟩,⟨.mv (.s 2),none⟩,⟨.iaS 33 (.r 3) (.r 4),none⟩,⟨.off 30 (.r 5),none⟩,⟨.load 0 false 1 (.r 6),none⟩,⟨.mv (.r 7),none⟩,⟨.mv (.s 0),some (8,true)⟩,⟨.mv (.s 1),some (8,true)⟩,⟨.mv (.s 2),some (8,true)⟩,⟨.call .val n_ppo_view_hangs [(.r 9),(.c (.fn 91 [] [])),(.r 10),(.r 11)],some (8,true)⟩,⟨.pick (.r 8) (.r 12) (.c (.bool false)),none⟩,⟨.mv (.r 13),none⟩] [] [] [(3,14,none)])
 (.drop [0,1,2] []))
 (.ret))⟩
def h91 : Vm.Hint := ⟨[0,1,2],[1],[],[[1,0],[0,0,0]],[([0,2],[]),([1],[(true,0)])],[]⟩
def ir_ppo_byCourse : Vm.Fn := ⟨[0,1,2],1,0,[.slot 2],.seq (.seq (.reg [⟨.lbox 0 4 (.s 0),none⟩,⟨.mv (.c (.nilp)),none⟩] [(true,0)] [] [(1,0,some 1),(2,1,none)])
 (.drop [0,2] []))
 (.seq (.seq (.reg [⟨.off 3 (.s 1),none⟩,⟨.load 0 false 1 (.r 0),none⟩,⟨.mv (.r 1),none⟩] [] [] [(2,2,none)])
 (.drop [1] [(true,0)]))
 (.ret))⟩
def h92 : Vm.Hint := ⟨[0,1,2,6,7,8,9,13,14,15,16,50],[8],[],[[0],[0,0,0,0,0,0],[0],[0,0,0,1,0,0],[0,0,0,0,0],[0,0,0,0,0,0,0,0,0,0,0,0,0,0,0,0,0,0,0,0,0,0,0,0,0,0,0],[0],[0,0],[0]],[([3],[]),([],[]),([],[]),([10],[]),([4],[]),([5,6],[(true,0)]),([0,1,2,7,8,9,11],[]),([11],[]),([0,1,2,7,8,9,10],[])],[]⟩
def ir_ppo_view_throughl0 : C :=
 .seq (.reg [⟨.bin .lss (.s 9) (.s 8),none⟩] [] [] [(10,0,none)])
 (.seq (.cond (.s 10) (.skip)
  (.exit 0))
 (.seq (.block 1 (.seq (.seq (.reg [⟨.mv (.s 9),none⟩,⟨.iaS 33 (.s 7) (.s 9),none⟩,⟨.load 0 true 33 (.r 1),none⟩,⟨.lalloc 0 zz0,none⟩,⟨.mv (.r 0),none⟩,⟨.store 0 33 (.r 3) (.r 2),none⟩] [(true,0)] [] [(4,4,none),(5,3,some 1)])
  (.drop [10] []))
  (.seq (.seq (.reg [⟨.mv (.s 1),none⟩,⟨.bin .add (.r 0) (.c (.int .i64 1)),none⟩,⟨.mv (.s 4),none⟩,⟨.bin .add (.r 1) (.r 2),none⟩,⟨.mv (.r 3),none⟩] [] [] [(6,4,none)])
  (.drop [4] []))
  (.seq (.seq (.reg [⟨.off 30 (.s 5),none⟩,⟨.load 0 false 1 (.r 0),none⟩,⟨.mv (.r 1),none⟩,⟨.mv (.s 0),some (2,true)⟩,⟨.nilck (.r 3),some (2,true)⟩,⟨.off 0 (.r 4),some (2,true)⟩,⟨.load 0 false 1 (.r 5),some (2,true)⟩,⟨.mv (.s 2),some (2,true)⟩,⟨.iaS 33 (.r 6) (.r 7),some (2,true)⟩,⟨.load 0 true 33 (.r 8),some (2,true)⟩,⟨.off 2 (.s 5),some (2,true)⟩,⟨.off 16 (.r 10),some (2,true)⟩,⟨.load 0 false 1 (.r 11),some (2,true)⟩,⟨.call .val n_ppo_returns [(.r 9),(.r 12)],some (2,true)⟩,⟨.pick (.r 2) (.r 13) (.c (.bool false)),none⟩,⟨.mv (.r 14),none⟩,⟨.mv (.s 0),some (15,true)⟩,⟨.mv (.s 1),some (15,true)⟩,⟨.mv (.s 6),some (15,true)⟩,⟨.call .val n_ppo_view_hangs [(.r 16),(.c (.fn 87 [] [])),(.r 17),(.r 18)],some (15,true)⟩,⟨.mv (.r 19),some (15,true)⟩,⟨.mv (.s 0),some (20,false)⟩,⟨.mv (.s 1),some (20,false)⟩,⟨.mv (.s 6),some (20,false)⟩,⟨.call .val n_ppo_view_hangs [(.r 21),(.c (.fn 89 [] [])),(.r 22),(.r 23)],some (20,false)⟩,⟨.pick (.r 20) (.c (.bool true)) (.r 24),some (15,true)⟩,⟨.pick (.r 15) (.r 25) (.c (.bool false)),none⟩] [] [(6,12),(8,12),(9,12)] [(11,26,none)])
  (.drop [5,6] [(true,0)]))
  (.cond (.s 11) (.seq (.seq (.reg [⟨.mv (.c (.bool true)),none⟩] [] [] [(3,0,none)])
   (.drop [0,1,2,7,8,9,11] []))
   (.ret))
   (.skip))))))
 (.seq (.reg [⟨.bin .add (.s 9) (.c (.int .i64 1)),none⟩,⟨.mv (.r 0),none⟩] [] [] [(9,1,none)])
 (.drop [11] []))))
def ir_ppo_view_through : Vm.Fn := ⟨[0,1,2,6,7,8,9,13,14,15,16,50],1,0,[.slot 3],.seq (.seq (.reg [⟨.mv (.c (.bool false)),none⟩] [] [] [(3,0,none)])
 (.drop [3] []))
 (.seq (.seq (.reg [⟨.mv (.s 0),none⟩,⟨.mv (.s 1),none⟩,⟨.mv (.s 2),none⟩,⟨.call .val n_ppo_view_between [(.r 0),(.r 1),(.r 2)],none⟩,⟨.len 1 (.r 3),none⟩,⟨.mv (.c (.int .i64 0)),none⟩] [] [] [(7,3,none),(8,4,none),(9,5,none)])
 (.block 0 (.loop ir_ppo_view_throughl0)))
 (.seq (.seq (.reg [⟨.mv (.c (.bool false)),none⟩] [] [] [(3,0,none)])
 (.drop [0,1,2,7,8,9,10] []))
 (.ret)))⟩
def h93 : Vm.Hint := ⟨[0,1,2,6,7,8,9,34,48],[7,8],[],[[0],[0,0,0,0,0,0,0,0,0,0,0,0,0,0,1,2,0,0],[0,0,0,0],[0,0,0,0,0,0,0,0],[0,0,0],[0,0,0,0,0,0,0,0,0,0,0,0],[0],[0]],[([3],[]),([1,2],[]),([],[]),([],[]),([8],[]),([7],[]),([0,4,5,6,8],[(true,0),(true,1)]),([0,4,5,6,7],[(true,0),(true,1)])],[]⟩
def ir_ppo_view_knownl0 : C :=
 .seq (.seq (.reg [⟨.mv (.s 6),none⟩,⟨.off 1 (.s 5),none⟩,⟨.load 0 false 1 (.r 1),none⟩,⟨.bin .lss (.r 0) (.r 2),none⟩,⟨.mv (.r 3),none⟩,⟨.off 30 (.s 5),some (4,true)⟩,⟨.load 0 false 1 (.r 5),some (4,true)⟩,⟨.pick (.r 4) (.r 6) (.c (.bool false)),none⟩] [] [] [(7,7,none)])
 (.cond (.s 7) (.skip)
  (.exit 0)))
 (.seq (.block 1 (.seq (.seq (.reg [⟨.mv (.s 0),none⟩,⟨.off 0 (.s 4),none⟩,⟨.load 0 false 1 (.r 1),none⟩,⟨.nilck (.r 0),none⟩,⟨.off 1 (.r 3),none⟩,⟨.iaA 3 4 (.r 4) (.r 2),none⟩,⟨.off 1 (.r 5),none⟩,⟨.load 0 false 1 (.r 6),none⟩,⟨.off 1 (.s 4),none⟩,⟨.load 0 false 1 (.r 8),none⟩,⟨.mv (.s 6),none⟩,⟨.call .val n_rel_Rel_Has [(.r 7),(.r 9),(.r 10)],none⟩] [] [(2,9),(7,9)] [(8,11,none)])
  (.drop [7] []))
  (.cond (.s 8) (.seq (.seq (.reg [⟨.mv (.c (.bool true)),none⟩] [] [] [(3,0,none)])
   (.drop [0,4,5,6,8] [(true,0),(true,1)]))
   (.ret))
   (.skip))))
 (.seq (.reg [⟨.mv (.s 6),none⟩,⟨.bin .add (.r 0) (.c (.int .i64 1)),none⟩,⟨.mv (.r 1),none⟩] [] [] [(6,2,none)])
 (.drop [8] [])))
def ir_ppo_view_known : Vm.Fn := ⟨[0,1,2,6,7,8,9,34,48],2,0,[.slot 3],.seq (.seq (.reg [⟨.mv (.c (.bool false)),none⟩] [] [] [(3,0,none)])
 (.drop [3] []))
 (.seq (.seq (.reg [⟨.mv (.s 0),none⟩,⟨.nilck (.r 0),none⟩,⟨.off 0 (.r 1),none⟩,⟨.load 0 false 1 (.r 2),none⟩,⟨.mv (.s 1),none⟩,⟨.iaS 33 (.r 3) (.r 4),none⟩,⟨.load 0 true 33 (.r 5),none⟩,⟨.mv (.s 0),none⟩,⟨.nilck (.r 7),none⟩,⟨.off 0 (.r 8),none⟩,⟨.load 0 false 1 (.r 9),none⟩,⟨.mv (.s 2),none⟩,⟨.iaS 33 (.r 10) (.r 11),none⟩,⟨.load 0 true 33 (.r 12),none⟩,⟨.lalloc 0 zz0,none⟩,⟨.lalloc 1 zz0,none⟩,⟨.store 0 33 (.r 14) (.r 6),none⟩,⟨.store 0 33 (.r 15) (.r 13),none⟩] [(true,0),(true,1)] [(3,10),(3,12),(3,13),(3,14),(3,15),(5,10),(5,12),(5,13),(5,14),(5,15),(6,10),(6,12),(6,13),(6,14),(6,15),(10,14),(10,15),(10,16),(12,14),(12,15),(12,16),(13,14),(13,15),(13,16),(14,15)] [(4,14,some 1),(5,15,some 3)])
 (.drop [1,2] []))
 (.seq (.seq (.reg [⟨.off 1 (.s 4),none⟩,⟨.load 0 false 1 (.r 0),none⟩,⟨.bin .add (.r 1) (.c (.int .i64 1)),none⟩,⟨.mv (.r 2),none⟩] [] [] [(6,3,none)])
 (.block 0 (.loop ir_ppo_view_knownl0)))
 (.seq (.seq (.reg [⟨.mv (.c (.bool false)),none⟩] [] [] [(3,0,none)])
 (.drop [0,4,5,6,7] [(true,0),(true,1)]))
 (.ret))))⟩
def h94 : Vm.Hint := ⟨[0,1,2,4,5,14],[2],[],[[1,0,0],[0,0,0,0,0,0,0,0,0],[0,0],[0,0,0,0,0,0,0,0,0,0,0,0,0]],[([0,3,4],[]),([],[]),([1,2,5],[(true,0)]),([1,2,5],[(true,0)])],[]⟩
def ir_cand_Byte : Vm.Fn := ⟨[0,1,2,4,5,14],1,0,[.slot 3,.slot 4],.seq (.seq (.reg [⟨.lbox 0 33 (.s 0),none⟩,⟨.mv (.c (.int .u8 0)),none⟩,⟨.mv (.c (.bool false)),none⟩] [(true,0)] [] [(2,0,some 1),(3,1,none),(4,2,none)])
 (.drop [0,3,4] []))
 (.seq (.seq (.reg [⟨.off 30 (.s 2),none⟩,⟨.load 0 false 1 (.r 0),none⟩,⟨.un .not (.r 1),none⟩,⟨.mv (.r 2),none⟩,⟨.load 0 true 33 (.s 2),some (3,false)⟩,⟨.mv (.s 1),some (3,false)⟩,⟨.call .val n_cand_has [(.r 4),(.r 5)],some (3,false)⟩,⟨.un .not (.r 6),some (3,false)⟩,⟨.pick (.r 3) (.c (.bool true)) (.r 7),none⟩] [] [] [(5,8,none)])
 (.cond (.s 5) (.seq (.seq (.reg [⟨.mv (.c (.int .u8 0)),none⟩,⟨.mv (.c (.bool false)),none⟩] [] [] [(3,0,none),(4,1,none)])
  (.drop [1,2,5] [(true,0)]))
  (.ret))
  (.skip)))
 (.seq (.seq (.reg [⟨.off 2 (.s 2),none⟩,⟨.off 0 (.r 0),none⟩,⟨.off 14 (.r 1),none⟩,⟨.load 0 false 1 (.r 2),none⟩,⟨.mv (.s 1),none⟩,⟨.off 31 (.s 2),none⟩,⟨.load 0 false 1 (.r 5),none⟩,⟨.bin .sub (.r 4) (.r 6),none⟩,⟨.bin .mul (.c (.int .i64 8)) (.r 7),none⟩,⟨.bin .shr (.r 3) (.r 8),none⟩,⟨.i2i .u8 (.r 9),none⟩,⟨.mv (.r 10),none⟩,⟨.mv (.c (.bool true)),none⟩] [] [] [(3,11,none),(4,12,none)])
 (.drop [1,2,5] [(true,0)]))
 (.ret)))⟩
def h95 : Vm.Hint := ⟨[0,2,3,10,13,16,19,22,25,28,31,34,37,40],[],[],[[0],[0,0,0,0,0,0,0],[0],[0,0,0],[0],[0,0,0],[0],[0,0,0],[0],[0,0,0],[0],[0,0,0],[0],[0,0,0],[0],[0,0,0],[0],[0,0,0],[0],[0,0,0],[0],[0,0,0],[0],[0,0,0],[0],[0]],[],[]⟩
def ir_ops_Sort : Vm.Fn := ⟨[0,2,3,10,13,16,19,22,25,28,31,34,37,40],0,0,[.slot 1],.seq (.reg [⟨.mv (.c (.int .i64 0)),none⟩] [] [] [(1,0,none)])
 (.seq (.block 0 (.seq (.reg [⟨.mv (.s 0),none⟩,⟨.bin .lss (.r 0) (.c (.int .i64 1)),none⟩,⟨.mv (.r 1),none⟩,⟨.mv (.s 0),some (2,false)⟩,⟨.bin .gtr (.r 3) (.c (.int .i64 75)),some (2,false)⟩,⟨.pick (.r 2) (.c (.bool true)) (.r 4),none⟩,⟨.mv (.r 5),none⟩] [] [] [(2,6,none)])
  (.cond (.s 2) (.seq (.reg [⟨.mv (.c (.int .i64 0)),none⟩] [] [] [(1,0,none)])
   (.ret))
   (.seq (.reg [⟨.mv (.s 0),none⟩,⟨.bin .leq (.r 0) (.c (.int .i64 2)),none⟩,⟨.mv (.r 1),none⟩] [] [] [(3,2,none)])
   (.cond (.s 3) (.seq (.reg [⟨.mv (.c (.int .i64 1)),none⟩] [] [] [(1,0,none)])
    (.ret))
    (.seq (.reg [⟨.mv (.s 0),none⟩,⟨.bin .leq (.r 0) (.c (.int .i64 4)),none⟩,⟨.mv (.r 1),none⟩] [] [] [(4,2,none)])
    (.cond (.s 4) (.seq (.reg [⟨.mv (.c (.int .i64 2)),none⟩] [] [] [(1,0,none)])
     (.ret))
     (.seq (.reg [⟨.mv (.s 0),none⟩,⟨.bin .leq (.r 0) (.c (.int .i64 10)),none⟩,⟨.mv (.r 1),none⟩] [] [] [(5,2,none)])
     (.cond (.s 5) (.seq (.reg [⟨.mv (.c (.int .i64 3)),none⟩] [] [] [(1,0,none)])
      (.ret))
      (.seq (.reg [⟨.mv (.s 0),none⟩,⟨.bin .leq (.r 0) (.c (.int .i64 17)),none⟩,⟨.mv (.r 1),none⟩] [] [] [(6,2,none)])
      (.cond (.s 6) (.seq (.reg [⟨.mv (.c (.int .i64 4)),none⟩] [] [] [(1,0,none)])
       (.ret))
       (.seq (.reg [⟨.mv (.s 0),none⟩,⟨.bin .leq (.r 0) (.c (.int .i64 21)),none⟩,⟨.mv (.r 1),none⟩] [] [] [(7,2,none)])
       (.cond (.s 7) (.seq (.reg [⟨.mv (.c (.int .i64 5)),none⟩] [] [] [(1,0,none)])
        (.ret))
        (.seq (.reg [⟨.mv (.s 0),none⟩,⟨.bin .leq (.r 0) (.c (.int .i64 34)),none⟩,⟨.mv (.r 1),none⟩] [] [] [(8,2,none)])
        (.cond (.s 8) (.seq (.reg [⟨.mv (.c (.int .i64 6)),none⟩] [] [] [(1,0,none)])
         (.ret))
         (.seq (.reg [⟨.mv (.s 0),none⟩,⟨.bin .leq (.r 0) (.c (.int .i64 49)),none⟩,⟨.mv (.r 1),none⟩] [] [] [(9,2,none)])
         (.cond (.s 9) (.seq (.reg [⟨.mv (.c (.int .i64 7)),none⟩] [] [] [(1,0,none)])
          (.ret))
          (.seq (.reg [⟨.mv (.s 0),none⟩,⟨.bin .leq (.r 0) (.c (.int .i64 51)),none⟩,⟨.mv (.r 1),none⟩] [] [] [(10,2,none)])
          (.cond (.s 10) (.seq (.reg [⟨.mv (.c (.int .i64 8)),none⟩] [] [] [(1,0,none)])
           (.ret))
           (.seq (.reg [⟨.mv (.s 0),none⟩,⟨.bin .leq (.r 0) (.c (.int .i64 53)),none⟩,⟨.mv (.r 1),none⟩] [] [] [(11,2,none)])
           (.cond (.s 11) (.seq (.reg [⟨.mv (.c (.int .i64 9)),none⟩] [] [] [(1,0,none)])
            (.ret))
            (.seq (.reg [⟨.mv (.s 0),none⟩,⟨.bin .leq (.r 0) (.c (.int .i64 55)),none⟩,⟨.mv (.r 1),none⟩] [] [] [(12,2,none)])
            (.cond (.s 12) (.seq (.reg [⟨.mv (.c (.int .i64 10)),none⟩] [] [] [(1,0,none)])
             (.ret))
             (.seq (.reg [⟨.mv (.s 0),none⟩,⟨.bin .leq (.r 0) (.c (.int .i64 57)),none⟩,⟨.mv (.r 1),none⟩] [] [] [(13,2,none)])
             (.cond (.s 13) (.seq (.reg [⟨.mv (.c (.int .i64 11)),none⟩] [] [] [(1,0,none)])
              (.ret))
              (.skip))))))))))))))))))))))))))
 (.seq (.reg [⟨.mv (.c (.int .i64 12)),none⟩] [] [] [(1,0,none)])
 (.ret)))⟩
def h103 : Vm.Hint := ⟨[0,1],[],[],[[0,0,0,0,0,0,0,0,0,0,0]],[([0,1],[])],[]⟩
def ir_rel_row_add : Vm.Fn := ⟨[0,1],0,0,[],.seq (.reg [⟨.mv (.s 0),none⟩,⟨.mv (.s 1),none⟩,⟨.bin .quo (.r 1) (.c (.int .i64 64)),none⟩,⟨.iaS 1 (.r 0) (.r 2),none⟩,⟨.load 0 false 1 (.r 3),none⟩,⟨.mv (.s 1),none⟩,⟨.bin .rem (.r 5) (.c (.int .i64 64)),none⟩,⟨.bin .shl (.c (.int .u64 1)) (.r 6),none⟩,⟨.bin .or (.r 4) (.r 7),none⟩,⟨.iaS 1 (.r 0) (.r 2),none⟩,⟨.store 0 1 (.r 9) (.r 8),none⟩] [] [] [])
 (.drop [0,1] [])⟩
def h104 : Vm.Hint := ⟨[0,2,4],[],[],[[0],[0,0],[0],[0,0,0,0,0,0,0,0,0,0]],[([1],[]),([],[]),([0,2],[]),([0,2],[])],[]⟩
def ir_math_bits_TrailingZeros64 : Vm.Fn := ⟨[0,2,4],0,0,[.slot 1],.seq (.seq (.reg [⟨.mv (.c (.int .i64 0)),none⟩] [] [] [(1,0,none)])
 (.drop [1] []))
 (.seq (.seq (.reg [⟨.mv (.s 0),none⟩,⟨.bin .eql (.r 0) (.c (.int .u64 0)),none⟩] [] [] [(2,1,none)])
 (.cond (.s 2) (.seq (.seq (.reg [⟨.mv (.c (.int .i64 64)),none⟩] [] [] [(1,0,none)])
  (.drop [0,2] []))
  (.ret))
  (.skip)))
 (.seq (.seq (.reg [⟨.mv (.s 0),none⟩,⟨.mv (.s 0),none⟩,⟨.un .neg (.r 1),none⟩,⟨.bin .and (.r 0) (.r 2),none⟩,⟨.bin .mul (.r 3) (.c (.int .u64 285870213051353865)),none⟩,⟨.bin .shr (.r 4) (.c (.int .u64 58)),none⟩,⟨.iaA 64 1 (.c (.ip false glV 0)) (.r 5),none⟩,⟨.load 0 false 1 (.r 6),none⟩,⟨.i2i .i64 (.r 7),none⟩,⟨.mv (.r 8),none⟩] [] [] [(1,9,none)])
 (.drop [0,2] []))
 (.ret)))⟩
def h105 : Vm.Hint := ⟨[0,2],[],[],[[0],[0,0,0,0]],[([1],[]),([0],[])],[]⟩
def ir_ops_Memory : Vm.Fn := ⟨[0,2],0,0,[.slot 1],.seq (.seq (.reg [⟨.mv (.c (.bool false)),none⟩] [] [] [(1,0,none)])
 (.drop [1] []))
 (.seq (.seq (.reg [⟨.mv (.s 0),none⟩,⟨.call .val n_ops_Size [(.r 0)],none⟩,⟨.bin .gtr (.r 1) (.c (.int .i64 0)),none⟩,⟨.mv (.r 2),none⟩] [] [] [(1,3,none)])
 (.drop [0] []))
 (.ret))⟩
def h106 : Vm.Hint := ⟨[0,1,4],[],[],[[0],[0,0,1,0,0]],[([2],[]),([0,1],[])],[]⟩
def ir_slices_ContainsFunc_api_Event_api_Event : Vm.Fn := ⟨[0,1,4],0,0,[.slot 2],.seq (.seq (.reg [⟨.mv (.c (.bool false)),none⟩] [] [] [(2,0,none)])
 (.drop [2] []))
 (.seq (.seq (.reg [⟨.mv (.s 0),none⟩,⟨.mv (.s 1),none⟩,⟨.call .heap n_slices_IndexFunc_api_Event_api_Event [(.r 0),(.r 1)],none⟩,⟨.bin .geq (.r 2) (.c (.int .i64 0)),none⟩,⟨.mv (.r 3),none⟩] [] [] [(2,4,none)])
 (.drop [0,1] []))
 (.ret))⟩
def h107 : Vm.Hint := ⟨[0,1,2,3],[2],[],[[1,0],[0,0,0,0,0,0,0,0,0,0,0,0,0,0,0,0]],[([0,3],[]),([2],[(true,0)])],[]⟩
def ir_cand_look_places_1 : Vm.Fn := ⟨[0,1,2,3],1,0,[.slot 3],.seq (.seq (.reg [⟨.lbox 0 33 (.s 0),none⟩,⟨.mv (.c (.bool false)),none⟩] [(true,0)] [] [(2,0,some 1),(3,1,none)])
 (.drop [0,3] []))
 (.seq (.seq (.reg [⟨.off 2 (.s 2),none⟩,⟨.off 0 (.r 0),none⟩,⟨.off 1 (.r 1),none⟩,⟨.off 0 (.r 2),none⟩,⟨.load 0 false 1 (.r 3),none⟩,⟨.off 2 (.s 2),none⟩,⟨.off 0 (.r 5),none⟩,⟨.off 12 (.r 6),none⟩,⟨.load 0 false 1 (.r 7),none⟩,⟨.off 0 (.s 1),none⟩,⟨.off 0 (.r 9),none⟩,⟨.load 0 false 1 (.r 10),none⟩,⟨.len 1 (.r 11),none⟩,⟨.call .val n_alu_Where [(.r 4),(.r 8),(.r 12)],none⟩,⟨.bin .neq (.r 13) (.c (.int .i64 0)),none⟩,⟨.mv (.r 14),none⟩] [] [] [(3,15,none)])
 (.drop [2] [(true,0)]))
 (.ret))⟩
def h108 : Vm.Hint := ⟨[0,1,2,6,7,11,14,19],[],[],[[0],[0,0,0,0],[0,0,0],[0],[0,0,0,0,0],[0],[0,0,0,0,0,0,0,0,0,0,0,0,0],[0],[0]],[([3],[]),([0],[]),([],[]),([1,2,4,5],[]),([5],[]),([1,2,4,6],[]),([1,2,4,6],[]),([7],[]),([7],[])],[]⟩
def ir_alu_Where : Vm.Fn := ⟨[0,1,2,6,7,11,14,19],0,0,[.slot 3],.seq (.seq (.reg [⟨.mv (.c (.int .i64 0)),none⟩] [] [] [(3,0,none)])
 (.drop [3] []))
 (.seq (.seq (.reg [⟨.mv (.s 0),none⟩,⟨.call .val n_ops_Size [(.r 0)],none⟩,⟨.i2i .u64 (.r 1),none⟩,⟨.mv (.r 2),none⟩] [] [] [(4,3,none)])
 (.drop [0] []))
 (.seq (.block 0 (.seq (.reg [⟨.mv (.s 4),none⟩,⟨.bin .eql (.r 0) (.c (.int .u64 0)),none⟩,⟨.mv (.r 1),none⟩] [] [] [(5,2,none)])
  (.cond (.s 5) (.seq (.seq (.reg [⟨.mv (.c (.int .i64 0)),none⟩] [] [] [(3,0,none)])
   (.drop [1,2,4,5] []))
   (.ret))
   (.seq (.seq (.reg [⟨.mv (.s 1),none⟩,⟨.mv (.s 4),none⟩,⟨.bin .rem (.r 0) (.r 1),none⟩,⟨.bin .neq (.r 2) (.c (.int .u64 0)),none⟩,⟨.mv (.r 3),none⟩] [] [] [(6,4,none)])
   (.drop [5] []))
   (.cond (.s 6) (.seq (.seq (.reg [⟨.mv (.c (.int .i64 4)),none⟩] [] [] [(3,0,none)])
    (.drop [1,2,4,6] []))
    (.ret))
    (.seq (.seq (.reg [⟨.mv (.s 2),none⟩,⟨.mv (.s 4),none⟩,⟨.i2i .i64 (.r 1),none⟩,⟨.bin .lss (.r 0) (.r 2),none⟩,⟨.mv (.r 3),none⟩,⟨.mv (.s 1),some (4,false)⟩,⟨.mv (.s 2),some (4,false)⟩,⟨.i2i .u64 (.r 6),some (4,false)⟩,⟨.mv (.s 4),some (4,false)⟩,⟨.bin .sub (.r 7) (.r 8),some (4,false)⟩,⟨.bin .gtr (.r 5) (.r 9),some (4,false)⟩,⟨.pick (.r 4) (.c (.bool true)) (.r 10),none⟩,⟨.mv (.r 11),none⟩] [] [] [(7,12,none)])
    (.drop [1,2,4,6] []))
    (.cond (.s 7) (.seq (.seq (.reg [⟨.mv (.c (.int .i64 3)),none⟩] [] [] [(3,0,none)])
     (.drop [7] []))
     (.ret))
     (.skip))))))))
 (.seq (.seq (.reg [⟨.mv (.c (.int .i64 0)),none⟩] [] [] [(3,0,none)])
 (.drop [7] []))
 (.ret))))⟩
def h109 : Vm.Hint := ⟨[0,1,2,3,6,7,8,9,11,20],[3,6],[],[[1,2,0],[0,0,0,0,0,0,0,0,0],[0,0],[0,0,0],[0,0,0,0,0,0,0,0,0,0,0,0],[0,0,0,0,0,0,0,0]],[([0,5],[]),([1],[]),([7],[]),([2,3,6,9],[(true,0)]),([2,9],[]),([3,6,8],[(true,0)])],[]⟩
def ir_cand_look_writer : Vm.Fn := ⟨[0,1,2,3,6,7,8,9,11,20],2,0,[.cell 4 true 33,.slot 5],.seq (.seq (.reg [⟨.lbox 0 7 (.s 0),none⟩,⟨.lalloc 1 zz0,none⟩,⟨.mv (.c (.bool false)),none⟩] [(true,0),(true,1)] [] [(3,0,some 1),(4,1,some 3),(5,2,none)])
 (.drop [0,5] []))
 (.seq (.seq (.reg [⟨.off 6 (.s 3),none⟩,⟨.load 0 false 1 (.r 0),none⟩,⟨.mv (.s 1),none⟩,⟨.look true false [.int .i64 0] (.r 1) (.r 2),none⟩,⟨.mv (.r 3),none⟩,⟨.ext (.r 4) 0,none⟩,⟨.ext (.r 4) 1,none⟩,⟨.mv (.r 5),none⟩,⟨.mv (.r 6),none⟩] [] [] [(6,7,none),(7,8,none)])
 (.drop [1] []))
 (.seq (.seq (.seq (.reg [⟨.mv (.s 7),none⟩,⟨.un .not (.r 0),none⟩] [] [] [(9,1,none)])
 (.drop [7] []))
 (.cond (.s 9) (.seq (.seq (.reg [⟨.build zz0 [],none⟩,⟨.store 0 33 (.s 4) (.r 0),none⟩,⟨.mv (.c (.bool false)),none⟩] [] [] [(5,2,none)])
  (.drop [2,3,6,9] [(true,0)]))
  (.ret))
  (.skip)))
 (.seq (.seq (.reg [⟨.off 5 (.s 3),none⟩,⟨.load 0 false 1 (.r 0),none⟩,⟨.mv (.s 6),none⟩,⟨.iaS 33 (.r 1) (.r 2),none⟩,⟨.load 0 true 33 (.r 3),none⟩,⟨.mv (.s 2),none⟩,⟨.call .val n_cand_Byte [(.r 4),(.r 5)],none⟩,⟨.mv (.r 6),none⟩,⟨.ext (.r 7) 0,none⟩,⟨.ext (.r 7) 1,none⟩,⟨.mv (.r 8),none⟩,⟨.mv (.r 9),none⟩] [] [] [(8,11,none)])
 (.drop [2,9] []))
 (.seq (.seq (.reg [⟨.off 5 (.s 3),none⟩,⟨.load 0 false 1 (.r 0),none⟩,⟨.mv (.s 6),none⟩,⟨.iaS 33 (.r 1) (.r 2),none⟩,⟨.load 0 true 33 (.r 3),none⟩,⟨.mv (.s 8),none⟩,⟨.store 0 33 (.s 4) (.r 4),none⟩,⟨.mv (.r 5),none⟩] [] [] [(5,7,none)])
 (.drop [3,6,8] [(true,0)]))
 (.ret)))))⟩
def h110 : Vm.Hint := ⟨[0,1,4,5,8],[],[],[[0],[0,0,0],[0],[0,0,0],[0,0],[0,0,0,0,0,0]],[],[]⟩
def ir_word_Zext : Vm.Fn := ⟨[0,1,4,5,8],0,0,[.slot 2],.seq (.reg [⟨.mv (.c (.int .u64 0)),none⟩] [] [] [(2,0,none)])
 (.seq (.block 0 (.seq (.reg [⟨.mv (.s 1),none⟩,⟨.bin .lss (.r 0) (.c (.int .i64 1)),none⟩,⟨.mv (.r 1),none⟩] [] [] [(3,2,none)])
  (.cond (.s 3) (.seq (.reg [⟨.mv (.c (.int .u64 0)),none⟩] [] [] [(2,0,none)])
   (.ret))
   (.seq (.reg [⟨.mv (.s 1),none⟩,⟨.bin .geq (.r 0) (.c (.int .i64 64)),none⟩,⟨.mv (.r 1),none⟩] [] [] [(4,2,none)])
   (.cond (.s 4) (.seq (.reg [⟨.mv (.s 0),none⟩,⟨.mv (.r 0),none⟩] [] [] [(2,1,none)])
    (.ret))
    (.skip))))))
 (.seq (.reg [⟨.mv (.s 0),none⟩,⟨.mv (.s 1),none⟩,⟨.bin .shl (.c (.int .u64 1)) (.r 1),none⟩,⟨.bin .sub (.r 2) (.c (.int .u64 1)),none⟩,⟨.bin .and (.r 0) (.r 3),none⟩,⟨.mv (.r 4),none⟩] [] [] [(2,5,none)])
 (.ret)))⟩
def h111 : Vm.Hint := ⟨[0,1,4,5,7,8,9],[],[5],[[0],[1],[0,0,0],[0],[0,0,0,1,2,0],[0,0,0],[0,0],[0,0]],[],[]⟩
def ir_word_Bytesl0 : C :=
 .seq (.reg [⟨.bin .lss (.s 5) (.s 4),none⟩] [] [] [(6,0,none)])
 (.seq (.cond (.s 6) (.skip)
  (.exit 0))
 (.seq (.block 1 (.seq (.reg [⟨.mv (.s 3),none⟩,⟨.mv (.s 0),none⟩,⟨.i2i .u8 (.r 1),none⟩,⟨.lit 1 1 [[.int .u8 0]] [(0,(.r 2))],none⟩,⟨.app 2 1 1 (.r 0) (.r 3),none⟩,⟨.mv (.r 4),none⟩] [] [] [(3,5,some 0)])
  (.reg [⟨.mv (.s 0),none⟩,⟨.bin .shr (.r 0) (.c (.int .u64 8)),none⟩,⟨.mv (.r 1),none⟩] [] [] [(0,2,none)])))
 (.reg [⟨.bin .add (.s 5) (.c (.int .i64 1)),none⟩,⟨.mv (.r 0),none⟩] [] [] [(5,1,none)])))
def ir_word_Bytes : Vm.Fn := ⟨[0,1,4,5,7,8,9],0,1,[.slot 2],.seq (.reg [⟨.mv (.c (.nils)),none⟩] [] [] [(2,0,none)])
 (.seq (.reg [⟨.onil 0,none⟩] [(false,0)] [] [(3,0,some 0)])
 (.seq (.seq (.reg [⟨.mv (.s 1),none⟩,⟨.min [(.r 0),(.c (.int .i64 8))],none⟩,⟨.mv (.c (.int .i64 0)),none⟩] [] [] [(4,1,none),(5,2,none)])
 (.block 0 (.loop ir_word_Bytesl0)))
 (.seq (.reg [⟨.mv (.s 3),none⟩,⟨.mv (.r 0),none⟩] [] [] [(2,1,none)])
 (.ret))))⟩
def h112 : Vm.Hint := ⟨[0,1,4,5,6,7,8,10,15,18,19,20,21,32,33,34,35],[8],[],[[0],[0,0,1,0],[0,0],[0],[0,0,0],[0,0,0],[0],[0,0,0,1,0,0],[0,0,0,0,0,0,1,0,0,0],[0],[0,0,0],[0,0,0,1],[0,0],[0,0,0,0,0,1],[0,0],[0,0]],[([2],[]),([],[]),([],[]),([0,1,3,8],[]),([8],[]),([0],[]),([],[]),([12],[]),([],[]),([],[]),([16],[]),([7],[]),([],[]),([5,6,13,14,15,16],[(true,0)]),([],[]),([1,3,4,9,10,11,12],[])],[]⟩
def ir_deps_alongl0 : C :=
 .seq (.reg [⟨.bin .lss (.s 15) (.s 14),none⟩] [] [] [(16,0,none)])
 (.seq (.cond (.s 16) (.skip)
  (.exit 2))
 (.seq (.block 3 (.seq (.seq (.reg [⟨.iaS 1 (.s 13) (.s 15),none⟩,⟨.load 0 false 1 (.r 0),none⟩,⟨.mv (.r 1),none⟩] [] [] [(7,2,none)])
  (.drop [16] []))
  (.seq (.reg [⟨.mv (.s 3),none⟩,⟨.mv (.s 7),none⟩,⟨.mv (.s 5),none⟩,⟨.call .heap n_rel_Rel_Add [(.r 0),(.r 1),(.r 2)],none⟩] [] [] [])
  (.drop [7] []))))
 (.reg [⟨.bin .add (.s 15) (.c (.int .i64 1)),none⟩,⟨.mv (.r 0),none⟩] [] [] [(15,1,none)])))
def ir_deps_alongl1 : C :=
 .seq (.reg [⟨.bin .lss (.s 11) (.s 10),none⟩] [] [] [(12,0,none)])
 (.seq (.cond (.s 12) (.skip)
  (.exit 0))
 (.seq (.block 1 (.seq (.seq (.reg [⟨.mv (.s 11),none⟩,⟨.iaS 27 (.s 9) (.s 11),none⟩,⟨.load 0 true 27 (.r 1),none⟩,⟨.lalloc 0 zz1,none⟩,⟨.mv (.r 0),none⟩,⟨.store 0 27 (.r 3) (.r 2),none⟩] [(true,0)] [] [(5,4,none),(6,3,some 1)])
  (.drop [12] []))
  (.seq (.seq (.reg [⟨.mv (.s 1),none⟩,⟨.mv (.s 5),none⟩,⟨.off 0 (.s 6),none⟩,⟨.off 1 (.r 2),none⟩,⟨.load 0 true 9 (.r 3),none⟩,⟨.mv (.s 4),none⟩,⟨.callv .heap (.r 0) [(.r 1),(.r 4),(.r 5)],none⟩,⟨.call .val n_deps_set_each [(.r 6)],none⟩,⟨.len 1 (.r 7),none⟩,⟨.mv (.c (.int .i64 0)),none⟩] [] [] [(13,7,none),(14,8,none),(15,9,none)])
  (.block 2 (.loop ir_deps_alongl0)))
  (.seq (.reg [⟨.mv (.s 4),none⟩,⟨.mv (.s 5),none⟩,⟨.off 0 (.s 6),none⟩,⟨.off 1 (.r 2),none⟩,⟨.load 0 true 9 (.r 3),none⟩,⟨.call .heap n_deps_roots_behind [(.r 0),(.r 1),(.r 4)],none⟩] [] [] [])
  (.drop [5,6,13,14,15,16] [(true,0)])))))
 (.reg [⟨.bin .add (.s 11) (.c (.int .i64 1)),none⟩,⟨.mv (.r 0),none⟩] [] [] [(11,1,none)])))
def ir_deps_along : Vm.Fn := ⟨[0,1,4,5,6,7,8,10,15,18,19,20,21,32,33,34,35],1,0,[.slot 2],.seq (.seq (.reg [⟨.mv (.c (.nilp)),none⟩] [] [] [(2,0,none)])
 (.drop [2] []))
 (.seq (.reg [⟨.mv (.s 0),none⟩,⟨.len 1 (.r 0),none⟩,⟨.call .heap n_rel_New [(.r 1)],none⟩,⟨.mv (.r 2),none⟩] [] [] [(3,3,none)])
 (.seq (.seq (.reg [⟨.mv (.s 3),none⟩,⟨.eqn .ptr false (.r 0) (.c (.nilp)),none⟩] [] [] [(8,1,none)])
 (.cond (.s 8) (.seq (.seq (.reg [⟨.mv (.c (.nilp)),none⟩] [] [] [(2,0,none)])
  (.drop [0,1,3,8] []))
  (.ret))
  (.skip)))
 (.seq (.seq (.reg [⟨.build [.int .u64 0,.int .u64 0,.int .u64 0,.int .u64 0,.int .u64 0,.int .u64 0,.int .u64 0,.int .u64 0,.int .u64 0,.int .u64 0,.int .u64 0,.int .u64 0,.int .u64 0,.int .u64 0,.int .u64 0,.int .u64 0,.int .u64 0,.int .u64 0,.int .u64 0,.int .u64 0,.int .u64 0,.int .u64 0,.int .u64 0,.int .u64 0,.int .u64 0,.int .u64 0,.int .u64 0,.int .u64 0,.int .u64 0,.int .u64 0,.int .u64 0,.int .u64 0,.int .u64 0,.int .u64 0,.int .u64 0,.int .u64 0,.int .u64 0,.int .u64 0,.int .u64 0,.int .u64 0,.int .u64 0,.int .u64 0,.int .u64 0,.int .u64 0,.int .u64 0,.int .u64 0,.int .u64 0,.int .u64 0,.int .u64 0,.int .u64 0,.int .u64 0,.int .u64 0,.int .u64 0,.int .u64 0,.int .u64 0,.int .u64 0,.int .u64 0,.int .u64 0,.int .u64 0,.int .u64 0,.int .u64 0,.int .u64 0,.int .u64 0,.int .u64 0,.int .u64 0,.int .u64 0,.int .u64 0,.int .u64 0,.int .u64 0,.int .u64 0,.int .u64 0,.int .u64 0,.int .u64 0,.int .u64 0,.int .u64 0,.int .u64 0,.int .u64 0,.int .u64 0,.int .u64 0,.int .u64 0,.int .u64 0,.int .u64 0,.int .u64 0,.int .u64 0,.int .u64 0,.int .u64 0,.int .u64 0,.int .u64 0,.int .u64 0,.int .u64 0,.int .u64 0,.int .u64 0,.int .u64 0,.int .u64 0,.int .u64 0,.int .u64 0,.int .u64 0,.int .u64 0,.int .u64 0,.int .u64 0,.int .u64 0,.int .u64 0,.int .u64 0,.int .u64 0,.int .u64 0,.int .u64 0,.int .u64 0,.int .u64 0,.int .u64 0,.int .u64 0,.int .u64 0,.int .u64 0,.int .u64 0,.int .u64 0,.int .u64 0,.int .u64 0,.int .u64 0,.int .u64 0,.int .u64 0,.int .u64 0,.int .u64 0,.int .u64 0,.int .u64 0,.int .u64 0,.int .u64 0,.int .u64 0,.int .u64 0,.int .u64 0,.int .u64 0,.int .u64 0,.int .u64 0,.int .u64 0,.int .u64 0,.int .u64 0,.int .u64 0,.int .u64 0,.int .u64 0,.int .u64 0,.int .u64 0,.int .u64 0,.int .u64 0,.int .u64 0,.int .u64 0,.int .u64 0,.int .u64 0,.int .u64 0,.int .u64 0,.int .u64 0,.int .u64 0,.int .u64 0,.int .u64 0,.int .u64 0,.int .u64 0,.int .u64 0,.int .u64 0,.int .u64 0,.int .u64 0,.int .u64 0,.int .u64 0,.int .u64 0,.int .u64 0,.int .u64 0,.int .u64 0,.int .u64 0,.int .u64 0,.int .u64 0,.int .u64 0,.int .u64 0,.int .u64 0,.int .u64 0,.int .u64 0,.int .u64 0,.int .u64 0,.int .u64 0,.int .u64 0,.int .u64 0,.int .u64 0,.int .u64 0,.int .u64 0,.int .u64 0,.int .u64 0,.int .u64 0,.int .u64 0,.int .u64 0,.int .u64 0,.int .u64 0,.int .u64 0,.int .u64 0,.int .u64 0,.int .u64 0,.int .u64 0,.int .u64 0,.int .u64 0,.int .u64 0,.int .u64 0,.int .u64 0,.int .u64 0,.int .u64 0,.int .u64 0,.int .u64 0,.int .u64 0,.int .u64 0,.int .u64 0,.int .u64 0,.int .u64 0,.int .u64 0,.int .u64 0,.int .u64 0,.int .u64 0,.int .u64 0,.int .u64 0,.int .u64 0,.int .u64 0,.int .u64 0,.int .u64 0,.int .u64 0,.int .u64 0,.int .u64 0,.int .u64 0,.int .u64 0,.int .u64 0,.int .u64 0,.int .u64 0,.int .u64 0,.int .u64 0,.int .u64 0,.int .u64 0,.int .u64 0,.int .u64 0,.int .u64 0,.int .u64 0,.int .u64 0,.int .u64 0,.int .u64 0,.int .u64 0,.int .u64 0,.int .u64 0,.int .u64 0,.int .u64 0,.int .u64 0,.int .u64 0,.int .u64 0,.int .u64 0,.int .u64 0,.int .u64 0,.int .u64 0,.int .u64 0,.int .u64 0,.int .u64 0,.int .u64 0,.int .u64 0,.int .u64 0,.int .u64 0,.int .u64 0,.int .u64 0,.int .u64 0] [],none⟩,⟨.hbox 256 (.r 0),none⟩,⟨.mv (.r 1),none⟩] [] [] [(4,2,none)])
 (.drop [8] []))
 (.seq (.seq (.seq (.reg [⟨.mv (.s 0),none⟩,⟨.len 1 (.r 0),none⟩,⟨.mv (.c (.int .i64 0)),none⟩] [] [] [(9,0,none),(10,1,none),(11,2,none)])
 (.drop [0] []))
 (.block 0 (.loop ir_deps_alongl1)))
 (.seq (.seq (.reg [⟨.mv (.s 3),none⟩,⟨.mv (.r 0),none⟩] [] [] [(2,1,none)])
 (.drop [1,3,4,9,10,11,12] []))
 (.ret))))))⟩
def h113 : Vm.Hint := ⟨[1,2,4,6,10],[4,6],[],[[1,2],[0,0,0,0],[0,0],[0,0,0,0,0]],[([0],[]),([],[]),([1,2,4],[(true,0)]),([1,2,4],[(true,0)])],[]⟩
def ir_deps_Address_1 : Vm.Fn := ⟨[1,2,4,6,10],2,0,[.cell 3 true 8],.seq (.seq (.reg [⟨.lbox 0 9 (.s 0),none⟩,⟨.lalloc 1 zz2,none⟩] [(true,0),(true,1)] [] [(2,0,some 1),(3,1,some 3)])
 (.drop [0] []))
 (.seq (.seq (.reg [⟨.off 0 (.s 2),none⟩,⟨.load 0 false 1 (.r 0),none⟩,⟨.call .val n_ops_Memory [(.r 1)],none⟩,⟨.un .not (.r 2),none⟩] [] [] [(4,3,none)])
 (.cond (.s 4) (.seq (.seq (.reg [⟨.build zz2 [],none⟩,⟨.store 0 8 (.s 3) (.r 0),none⟩] [] [] [])
  (.drop [1,2,4] [(true,0)]))
  (.ret))
  (.skip)))
 (.seq (.seq (.reg [⟨.mv (.s 1),none⟩,⟨.load 0 true 9 (.s 2),none⟩,⟨.call .val n_deps_first [(.r 1)],none⟩,⟨.call .val n_deps_roots_of [(.r 0),(.r 2)],none⟩,⟨.store 0 8 (.s 3) (.r 3),none⟩] [] [] [])
 (.drop [1,2,4] [(true,0)]))
 (.ret)))⟩
def h114 : Vm.Hint := ⟨[0,1,4,5,7,8,9,10,11,19],[4],[],[[1],[0],[0,0,0],[0],[0,0,0],[0,0,0,0,0,0],[0,0,0,0,0,1],[0,0],[0,0]],[([],[]),([],[]),([1],[]),([],[]),([8],[]),([],[]),([4,9],[]),([4,9],[]),([0,3,5,6,7,8],[])],[]⟩
def ir_deps_roots_ofl0 : C :=
 .seq (.reg [⟨.bin .lss (.s 7) (.s 6),none⟩] [] [] [(8,0,none)])
 (.seq (.cond (.s 8) (.skip)
  (.exit 0))
 (.seq (.block 1 (.seq (.seq (.reg [⟨.iaS 1 (.s 5) (.s 7),none⟩,⟨.load 0 false 1 (.r 0),none⟩,⟨.mv (.r 1),none⟩] [] [] [(4,2,none)])
  (.drop [8] []))
  (.seq (.reg [⟨.mv (.s 4),none⟩,⟨.bin .gtr (.r 0) (.c (.int .i64 0)),none⟩,⟨.mv (.r 1),none⟩,⟨.mv (.s 4),some (2,true)⟩,⟨.bin .lss (.r 3) (.c (.int .i64 32)),some (2,true)⟩,⟨.pick (.r 2) (.r 4) (.c (.bool false)),none⟩] [] [] [(9,5,none)])
  (.cond (.s 9) (.seq (.reg [⟨.mv (.s 0),none⟩,⟨.mv (.s 4),none⟩,⟨.nilck (.r 0),none⟩,⟨.iaA 32 8 (.r 2) (.r 1),none⟩,⟨.load 0 true 8 (.r 3),none⟩,⟨.call .heap n_deps_set_join [(.s 3),(.r 4)],none⟩] [] [] [])
   (.drop [4,9] []))
   (.skip)))))
 (.seq (.reg [⟨.bin .add (.s 7) (.c (.int .i64 1)),none⟩,⟨.mv (.r 0),none⟩] [] [] [(7,1,none)])
 (.drop [4,9] []))))
def ir_deps_roots_of : Vm.Fn := ⟨[0,1,4,5,7,8,9,10,11,19],1,0,[.cell 2 true 8],.seq (.reg [⟨.lalloc 0 zz2,none⟩] [(true,0)] [] [(2,0,some 1)])
 (.seq (.reg [⟨.halloc zz2,none⟩] [] [] [(3,0,none)])
 (.seq (.seq (.seq (.reg [⟨.mv (.s 1),none⟩,⟨.len 1 (.r 0),none⟩,⟨.mv (.c (.int .i64 0)),none⟩] [] [] [(5,0,none),(6,1,none),(7,2,none)])
 (.drop [1] []))
 (.block 0 (.loop ir_deps_roots_ofl0)))
 (.seq (.seq (.reg [⟨.load 0 true 8 (.s 3),none⟩,⟨.store 0 8 (.s 2) (.r 0),none⟩] [] [] [])
 (.drop [0,3,5,6,7,8] []))
 (.ret))))⟩
def h115 : Vm.Hint := ⟨[0,1,2],[1],[],[[1,0],[0,0],[0,0,0]],[([0,2],[]),([],[]),([1],[(true,0)])],[]⟩
def ir_deps_first : Vm.Fn := ⟨[0,1,2],1,0,[.slot 2],.seq (.seq (.reg [⟨.lbox 0 9 (.s 0),none⟩,⟨.mv (.c (.nils)),none⟩] [(true,0)] [] [(1,0,some 1),(2,1,none)])
 (.drop [0,2] []))
 (.seq (.reg [⟨.off 3 (.s 1),none⟩,⟨.store 0 1 (.r 0) (.c (.int .i64 0)),none⟩] [] [] [])
 (.seq (.seq (.reg [⟨.load 0 true 9 (.s 1),none⟩,⟨.call .val n_ops_Sources [(.r 0)],none⟩,⟨.mv (.r 1),none⟩] [] [] [(2,2,none)])
 (.drop [1] [(true,0)]))
 (.ret)))⟩
def h116 : Vm.Hint := ⟨[1,2,4,6,10],[4,6],[],[[1,2],[0,0,0,0],[0,0],[0,0,0,0,0]],[([0],[]),([],[]),([1,2,4],[(true,0)]),([1,2,4],[(true,0)])],[]⟩
def ir_deps_Data_1 : Vm.Fn := ⟨[1,2,4,6,10],2,0,[.cell 3 true 8],.seq (.seq (.reg [⟨.lbox 0 9 (.s 0),none⟩,⟨.lalloc 1 zz2,none⟩] [(true,0),(true,1)] [] [(2,0,some 1),(3,1,some 3)])
 (.drop [0] []))
 (.seq (.seq (.reg [⟨.off 0 (.s 2),none⟩,⟨.load 0 false 1 (.r 0),none⟩,⟨.call .val n_ops_Stores [(.r 1)],none⟩,⟨.un .not (.r 2),none⟩] [] [] [(4,3,none)])
 (.cond (.s 4) (.seq (.seq (.reg [⟨.build zz2 [],none⟩,⟨.store 0 8 (.s 3) (.r 0),none⟩] [] [] [])
  (.drop [1,2,4] [(true,0)]))
  (.ret))
  (.skip)))
 (.seq (.seq (.reg [⟨.mv (.s 1),none⟩,⟨.load 0 true 9 (.s 2),none⟩,⟨.call .val n_deps_second [(.r 1)],none⟩,⟨.call .val n_deps_roots_of [(.r 0),(.r 2)],none⟩,⟨.store 0 8 (.s 3) (.r 3),none⟩] [] [] [])
 (.drop [1,2,4] [(true,0)]))
 (.ret)))⟩
def h117 : Vm.Hint := ⟨[0,1,2],[1],[],[[1,0],[0,0],[0,0,0]],[([0,2],[]),([],[]),([1],[(true,0)])],[]⟩
def ir_deps_second : Vm.Fn := ⟨[0,1,2],1,0,[.slot 2],.seq (.seq (.reg [⟨.lbox 0 9 (.s 0),none⟩,⟨.mv (.c (.nils)),none⟩] [(true,0)] [] [(1,0,some 1),(2,1,none)])
 (.drop [0,2] []))
 (.seq (.reg [⟨.off 2 (.s 1),none⟩,⟨.store 0 1 (.r 0) (.c (.int .i64 0)),none⟩] [] [] [])
 (.seq (.seq (.reg [⟨.load 0 true 9 (.s 1),none⟩,⟨.call .val n_ops_Sources [(.r 0)],none⟩,⟨.mv (.r 1),none⟩] [] [] [(2,2,none)])
 (.drop [1] [(true,0)]))
 (.ret)))⟩
def h118 : Vm.Hint := ⟨[1,2,3,5,7,8,18],[5,7,8],[],[[1,2],[0,3,0],[0,0,0,0,0,0,0,0,0],[0,0,0,0,1],[0,0]],[([0],[]),([],[]),([],[]),([1,3,6],[(true,0)]),([1,3,5,6],[(true,2),(true,0)])],[]⟩
def ir_deps_Course_1 : Vm.Fn := ⟨[1,2,3,5,7,8,18],3,0,[.cell 4 true 8],.seq (.seq (.reg [⟨.lbox 0 9 (.s 0),none⟩,⟨.lalloc 1 zz2,none⟩] [(true,0),(true,1)] [] [(3,0,some 1),(4,1,some 3)])
 (.drop [0] []))
 (.seq (.reg [⟨.load 0 true 8 (.s 2),none⟩,⟨.lalloc 2 zz2,none⟩,⟨.store 0 8 (.r 1) (.r 0),none⟩] [(true,2)] [] [(5,1,some 5)])
 (.seq (.seq (.reg [⟨.off 0 (.s 3),none⟩,⟨.load 0 false 1 (.r 0),none⟩,⟨.call .val n_ops_Sort [(.r 1)],none⟩,⟨.bin .eql (.r 2) (.c (.int .i64 3)),none⟩,⟨.mv (.r 3),none⟩,⟨.off 0 (.s 3),some (4,false)⟩,⟨.load 0 false 1 (.r 5),some (4,false)⟩,⟨.bin .eql (.r 6) (.c (.int .i64 4)),some (4,false)⟩,⟨.pick (.r 4) (.c (.bool true)) (.r 7),none⟩] [] [] [(6,8,none)])
 (.cond (.s 6) (.seq (.reg [⟨.mv (.s 1),none⟩,⟨.load 0 true 9 (.s 3),none⟩,⟨.call .val n_ops_Sources [(.r 1)],none⟩,⟨.call .val n_deps_roots_of [(.r 0),(.r 2)],none⟩,⟨.call .heap n_deps_set_join [(.s 2),(.r 3)],none⟩] [] [] [])
  (.drop [1,3,6] [(true,0)]))
  (.skip)))
 (.seq (.seq (.reg [⟨.load 0 true 8 (.s 5),none⟩,⟨.store 0 8 (.s 4) (.r 0),none⟩] [] [] [])
 (.drop [1,3,5,6] [(true,2),(true,0)]))
 (.ret))))⟩
def h119 : Vm.Hint := ⟨[0,1,3,4,5,6,7,8],[3],[],[[1],[0,0],[0],[0,0,0,0],[0,0,0,0,0,0,0,0,0,0],[0,0]],[([1],[]),([2],[(true,0)]),([],[]),([7],[]),([3,4],[]),([],[])],[]⟩
def ir_deps_set_joinl0 : C :=
 .seq (.reg [⟨.bin .lss (.s 6) (.c (.int .i64 8)),none⟩] [] [] [(7,0,none)])
 (.seq (.cond (.s 7) (.skip)
  (.exit 0))
 (.seq (.block 1 (.seq (.seq (.reg [⟨.mv (.s 6),none⟩,⟨.ixA 8 1 false (.s 5) (.s 6),none⟩,⟨.mv (.r 0),none⟩,⟨.mv (.r 1),none⟩] [] [] [(3,2,none),(4,3,none)])
  (.drop [7] []))
  (.seq (.reg [⟨.mv (.s 0),none⟩,⟨.mv (.s 3),none⟩,⟨.nilck (.r 0),none⟩,⟨.iaA 8 1 (.r 2) (.r 1),none⟩,⟨.load 0 false 1 (.r 3),none⟩,⟨.mv (.s 4),none⟩,⟨.bin .or (.r 4) (.r 5),none⟩,⟨.nilck (.r 0),none⟩,⟨.iaA 8 1 (.r 7) (.r 1),none⟩,⟨.store 0 1 (.r 8) (.r 6),none⟩] [] [] [])
  (.drop [3,4] []))))
 (.reg [⟨.bin .add (.s 6) (.c (.int .i64 1)),none⟩,⟨.mv (.r 0),none⟩] [] [] [(6,1,none)])))
def ir_deps_set_join : Vm.Fn := ⟨[0,1,3,4,5,6,7,8],1,0,[],.seq (.seq (.reg [⟨.lbox 0 8 (.s 1),none⟩] [(true,0)] [] [(2,0,some 1)])
 (.drop [1] []))
 (.seq (.seq (.reg [⟨.load 0 true 8 (.s 2),none⟩,⟨.mv (.c (.int .i64 0)),none⟩] [] [] [(5,0,none),(6,1,none)])
 (.drop [2] [(true,0)]))
 (.block 0 (.loop ir_deps_set_joinl0)))⟩
def h120 : Vm.Hint := ⟨[0,1,2,3,4,6,9,10,23,31,35,40,41,42,43,47],[1],[4],[[1,0],[0],[0,0,0],[0,0],[0,0],[0,0],[0,0],[0,0],[0,0,0,0,0,0,0,0],[0,0],[0,0],[0,0],[0,0,0,0,0],[0,0],[0,0,0],[0,0,0,0,0],[1],[0,0,0],[0],[0,0,0],[0,0],[0,0,1,2,0],[0,0],[0,0]],[([0,2],[]),([],[]),([],[]),([],[]),([],[]),([],[]),([],[]),([],[]),([1,6,7],[(true,0)]),([7],[]),([],[]),([],[]),([1,6,8],[(true,0)]),([6,8],[]),([9],[]),([1,10],[(true,0)]),([1,9,10],[(true,0)]),([3],[]),([],[]),([14],[]),([],[]),([5,15],[]),([5,15],[]),([4,11,12,13,14],[(false,0)])],[]⟩
def ir_ops_Sourcesl0 : C :=
 .seq (.reg [⟨.bin .lss (.s 13) (.s 12),none⟩] [] [] [(14,0,none)])
 (.seq (.cond (.s 14) (.skip)
  (.exit 1))
 (.seq (.block 2 (.seq (.seq (.reg [⟨.iaS 1 (.s 11) (.s 13),none⟩,⟨.load 0 false 1 (.r 0),none⟩,⟨.mv (.r 1),none⟩] [] [] [(5,2,none)])
  (.drop [14] []))
  (.seq (.reg [⟨.mv (.s 5),none⟩,⟨.bin .neq (.r 0) (.c (.int .i64 0)),none⟩] [] [] [(15,1,none)])
  (.cond (.s 15) (.seq (.reg [⟨.mv (.s 4),none⟩,⟨.mv (.s 5),none⟩,⟨.lit 1 1 [[.int .i64 0]] [(0,(.r 1))],none⟩,⟨.app 2 1 8 (.r 0) (.r 2),none⟩,⟨.mv (.r 3),none⟩] [] [] [(4,4,some 0)])
   (.drop [5,15] []))
   (.skip)))))
 (.seq (.reg [⟨.bin .add (.s 13) (.c (.int .i64 1)),none⟩,⟨.mv (.r 0),none⟩] [] [] [(13,1,none)])
 (.drop [5,15] []))))
def ir_ops_Sources : Vm.Fn := ⟨[0,1,2,3,4,6,9,10,23,31,35,40,41,42,43,47],1,1,[.slot 2],.seq (.seq (.reg [⟨.lbox 0 9 (.s 0),none⟩,⟨.mv (.c (.nils)),none⟩] [(true,0)] [] [(1,0,some 1),(2,1,none)])
 (.drop [0,2] []))
 (.seq (.reg [⟨.mv (.c (.nils)),none⟩] [] [] [(3,0,none)])
 (.seq (.seq (.reg [⟨.off 0 (.s 1),none⟩,⟨.load 0 false 1 (.r 0),none⟩,⟨.call .val n_ops_Sort [(.r 1)],none⟩] [] [] [(6,2,none)])
 (.block 0 (.seq (.seq (.reg [⟨.bin .eql (.s 6) (.c (.int .i64 3)),none⟩,⟨.mv (.r 0),none⟩] [] [] [(7,1,none)])
  (.cond (.s 7) (.skip)
   (.seq (.reg [⟨.bin .eql (.s 6) (.c (.int .i64 5)),none⟩,⟨.mv (.r 0),none⟩] [] [] [(7,1,none)])
   (.cond (.s 7) (.skip)
    (.seq (.reg [⟨.bin .eql (.s 6) (.c (.int .i64 7)),none⟩,⟨.mv (.r 0),none⟩] [] [] [(7,1,none)])
    (.cond (.s 7) (.skip)
     (.seq (.reg [⟨.bin .eql (.s 6) (.c (.int .i64 11)),none⟩,⟨.mv (.r 0),none⟩] [] [] [(7,1,none)])
     (.cond (.s 7) (.skip)
      (.reg [⟨.bin .eql (.s 6) (.c (.int .i64 12)),none⟩,⟨.mv (.r 0),none⟩] [] [] [(7,1,none)])))))))))
  (.cond (.s 7) (.seq (.reg [⟨.off 2 (.s 1),none⟩,⟨.load 0 false 1 (.r 0),none⟩,⟨.call .val n_ops_register [(.r 1)],none⟩,⟨.off 3 (.s 1),none⟩,⟨.load 0 false 1 (.r 3),none⟩,⟨.call .val n_ops_register [(.r 4)],none⟩,⟨.lit 0 1 [[.int .i64 0],[.int .i64 0]] [(0,(.r 2)),(1,(.r 5))],none⟩,⟨.mv (.r 6),none⟩] [] [(1,4),(2,4)] [(3,7,none)])
   (.drop [1,6,7] [(true,0)]))
   (.seq (.seq (.seq (.reg [⟨.bin .eql (.s 6) (.c (.int .i64 4)),none⟩,⟨.mv (.r 0),none⟩] [] [] [(8,1,none)])
   (.drop [7] []))
   (.cond (.s 8) (.skip)
    (.seq (.reg [⟨.bin .eql (.s 6) (.c (.int .i64 6)),none⟩,⟨.mv (.r 0),none⟩] [] [] [(8,1,none)])
    (.cond (.s 8) (.skip)
     (.reg [⟨.bin .eql (.s 6) (.c (.int .i64 10)),none⟩,⟨.mv (.r 0),none⟩] [] [] [(8,1,none)])))))
   (.cond (.s 8) (.seq (.reg [⟨.off 2 (.s 1),none⟩,⟨.load 0 false 1 (.r 0),none⟩,⟨.call .val n_ops_register [(.r 1)],none⟩,⟨.lit 0 1 [[.int .i64 0]] [(0,(.r 2))],none⟩,⟨.mv (.r 3),none⟩] [] [] [(3,4,none)])
    (.drop [1,6,8] [(true,0)]))
    (.seq (.seq (.reg [⟨.bin .eql (.s 6) (.c (.int .i64 2)),none⟩,⟨.mv (.r 0),none⟩] [] [] [(9,1,none)])
    (.drop [6,8] []))
    (.cond (.s 9) (.seq (.seq (.reg [⟨.off 0 (.s 1),none⟩,⟨.load 0 false 1 (.r 0),none⟩,⟨.bin .eql (.r 1) (.c (.int .i64 4)),none⟩] [] [] [(10,2,none)])
     (.drop [9] []))
     (.cond (.s 10) (.seq (.reg [⟨.off 2 (.s 1),none⟩,⟨.load 0 false 1 (.r 0),none⟩,⟨.call .val n_ops_register [(.r 1)],none⟩,⟨.lit 0 1 [[.int .i64 0]] [(0,(.r 2))],none⟩,⟨.mv (.r 3),none⟩] [] [] [(3,4,none)])
      (.drop [1,10] [(true,0)]))
      (.skip)))
     (.skip)))))))))
 (.seq (.seq (.reg [⟨.onil 0,none⟩] [(false,0)] [] [(4,0,some 0)])
 (.drop [1,9,10] [(true,0)]))
 (.seq (.seq (.seq (.reg [⟨.mv (.s 3),none⟩,⟨.len 1 (.r 0),none⟩,⟨.mv (.c (.int .i64 0)),none⟩] [] [] [(11,0,none),(12,1,none),(13,2,none)])
 (.drop [3] []))
 (.block 1 (.loop ir_ops_Sourcesl0)))
 (.seq (.seq (.reg [⟨.mv (.s 4),none⟩,⟨.mv (.r 0),none⟩] [] [] [(2,1,none)])
 (.drop [4,11,12,13,14] [(false,0)]))
 (.ret))))))⟩
def h121 : Vm.Hint := ⟨[0,1,2,3,4],[2,3],[],[[1,2,0],[0,0,0,0,0,0,0,0,0,0]],[([0,1,4],[]),([2,3],[(true,0),(true,1)])],[]⟩
def ir_ppo_overlap : Vm.Fn := ⟨[0,1,2,3,4],2,0,[.slot 4],.seq (.seq (.reg [⟨.lbox 0 33 (.s 0),none⟩,⟨.lbox 1 33 (.s 1),none⟩,⟨.mv (.c (.bool false)),none⟩] [(true,0),(true,1)] [] [(2,0,some 1),(3,1,some 3),(4,2,none)])
 (.drop [0,1,4] []))
 (.seq (.seq (.reg [⟨.off 31 (.s 2),none⟩,⟨.load 0 false 1 (.r 0),none⟩,⟨.off 32 (.s 2),none⟩,⟨.load 0 false 1 (.r 2),none⟩,⟨.off 31 (.s 3),none⟩,⟨.load 0 false 1 (.r 4),none⟩,⟨.off 32 (.s 3),none⟩,⟨.load 0 false 1 (.r 6),none⟩,⟨.call .val n_word_Overlap [(.r 1),(.r 3),(.r 5),(.r 7)],none⟩,⟨.mv (.r 8),none⟩] [] [] [(4,9,none)])
 (.drop [2,3] [(true,0),(true,1)]))
 (.ret))⟩
def h122 : Vm.Hint := ⟨[0,1,2,4],[2],[],[[1,0],[0,0,0,0,0,0,0]],[([0,3],[]),([1,2],[(true,0)])],[]⟩
def ir_ppo_has : Vm.Fn := ⟨[0,1,2,4],1,0,[.slot 3],.seq (.seq (.reg [⟨.lbox 0 33 (.s 0),none⟩,⟨.mv (.c (.bool false)),none⟩] [(true,0)] [] [(2,0,some 1),(3,1,none)])
 (.drop [0,3] []))
 (.seq (.seq (.reg [⟨.off 31 (.s 2),none⟩,⟨.load 0 false 1 (.r 0),none⟩,⟨.off 32 (.s 2),none⟩,⟨.load 0 false 1 (.r 2),none⟩,⟨.mv (.s 1),none⟩,⟨.call .val n_word_Overlap [(.r 1),(.r 3),(.r 4),(.c (.int .i64 1))],none⟩,⟨.mv (.r 5),none⟩] [] [] [(3,6,none)])
 (.drop [1,2] [(true,0)]))
 (.ret))⟩
def h123 : Vm.Hint := ⟨[0,1,2,6],[],[],[[0],[0,0,0,0,0,0,0,0,0]],[([3],[]),([0,1,2],[])],[]⟩
def ir_ppo_view_between : Vm.Fn := ⟨[0,1,2,6],0,0,[.slot 3],.seq (.seq (.reg [⟨.mv (.c (.nils)),none⟩] [] [] [(3,0,none)])
 (.drop [3] []))
 (.seq (.seq (.reg [⟨.mv (.s 0),none⟩,⟨.nilck (.r 0),none⟩,⟨.off 0 (.r 1),none⟩,⟨.load 0 false 1 (.r 2),none⟩,⟨.mv (.s 1),none⟩,⟨.bin .add (.r 4) (.c (.int .i64 1)),none⟩,⟨.mv (.s 2),none⟩,⟨.slc 33 (.r 3) (some (.r 5)) (some (.r 6)) none,none⟩,⟨.mv (.r 7),none⟩] [] [] [(3,8,none)])
 (.drop [0,1,2] []))
 (.ret))⟩
def h124 : Vm.Hint := ⟨[0,1,2,4],[2],[],[[1,0],[0,0,0,0,0,0,0,0,0,0,0,0]],[([0,3],[]),([1,2],[(true,0)])],[]⟩
def ir_ppo_returns : Vm.Fn := ⟨[0,1,2,4],1,0,[.slot 3],.seq (.seq (.reg [⟨.lbox 0 33 (.s 0),none⟩,⟨.mv (.c (.bool false)),none⟩] [(true,0)] [] [(2,0,some 1),(3,1,none)])
 (.drop [0,3] []))
 (.seq (.seq (.reg [⟨.off 29 (.s 2),none⟩,⟨.load 0 false 1 (.r 0),none⟩,⟨.mv (.r 1),none⟩,⟨.off 2 (.s 2),some (2,true)⟩,⟨.off 18 (.r 3),some (2,true)⟩,⟨.off 32 (.s 2),some (2,true)⟩,⟨.load 0 false 1 (.r 5),some (2,true)⟩,⟨.slcA 8 1 (.r 4) none (some (.r 6)) none,some (2,true)⟩,⟨.mv (.s 1),some (2,true)⟩,⟨.call .val n_slices_Contains_int_int [(.r 7),(.r 8)],some (2,true)⟩,⟨.pick (.r 2) (.r 9) (.c (.bool false)),none⟩,⟨.mv (.r 10),none⟩] [] [] [(3,11,none)])
 (.drop [1,2] [(true,0)]))
 (.ret))⟩
def h125 : Vm.Hint := ⟨[0,1,2,3,4,5,6,7,8,11],[3,4,5],[],[[1,2,3,0],[0,0,0],[0,0,0,0,0,0,0,0,0,0,0],[0,0,0,0,0,0,0,0,0,0,0,0,0,0,0,0,0,0,0],[0,0,0,0,0,0,0,0,0,0,0,0,0,0,0,0,0,0,0],[0,0,0,0,0]],[([0,1,2,6],[]),([],[]),([3,4,5,9],[(true,0),(true,1),(true,2)]),([4,9],[(true,1)]),([3,5],[(true,0),(true,2)]),([7,8],[])],[]⟩
def ir_ppo_orders : Vm.Fn := ⟨[0,1,2,3,4,5,6,7,8,11],3,0,[.slot 6],.seq (.seq (.reg [⟨.lbox 0 9 (.s 0),none⟩,⟨.lbox 1 33 (.s 1),none⟩,⟨.lbox 2 33 (.s 2),none⟩,⟨.mv (.c (.bool false)),none⟩] [(true,0),(true,1),(true,2)] [] [(3,0,some 1),(4,1,some 3),(5,2,some 5),(6,3,none)])
 (.drop [0,1,2,6] []))
 (.seq (.seq (.reg [⟨.off 0 (.s 3),none⟩,⟨.load 0 false 1 (.r 0),none⟩,⟨.bin .eql (.r 1) (.c (.int .i64 51)),none⟩] [] [] [(9,2,none)])
 (.cond (.s 9) (.seq (.seq (.reg [⟨.off 29 (.s 4),none⟩,⟨.load 0 false 1 (.r 0),none⟩,⟨.mv (.r 1),none⟩,⟨.off 30 (.s 4),some (2,false)⟩,⟨.load 0 false 1 (.r 3),some (2,false)⟩,⟨.mv (.r 4),some (2,false)⟩,⟨.off 30 (.s 5),some (5,true)⟩,⟨.load 0 false 1 (.r 6),some (5,true)⟩,⟨.pick (.r 5) (.r 7) (.c (.bool false)),some (2,false)⟩,⟨.pick (.r 2) (.c (.bool true)) (.r 8),none⟩,⟨.mv (.r 9),none⟩] [] [] [(6,10,none)])
  (.drop [3,4,5,9] [(true,0),(true,1),(true,2)]))
  (.ret))
  (.skip)))
 (.seq (.seq (.reg [⟨.off 29 (.s 4),none⟩,⟨.load 0 false 1 (.r 0),none⟩,⟨.mv (.r 1),none⟩,⟨.off 7 (.s 3),some (2,true)⟩,⟨.load 0 false 1 (.r 3),some (2,true)⟩,⟨.bin .and (.r 4) (.c (.int .i64 2)),some (2,true)⟩,⟨.bin .neq (.r 5) (.c (.int .i64 0)),some (2,true)⟩,⟨.pick (.r 2) (.r 6) (.c (.bool false)),none⟩,⟨.mv (.r 7),none⟩,⟨.off 30 (.s 4),some (8,false)⟩,⟨.load 0 false 1 (.r 9),some (8,false)⟩,⟨.mv (.r 10),some (8,false)⟩,⟨.off 7 (.s 3),some (11,true)⟩,⟨.load 0 false 1 (.r 12),some (11,true)⟩,⟨.bin .and (.r 13) (.c (.int .i64 1)),some (11,true)⟩,⟨.bin .neq (.r 14) (.c (.int .i64 0)),some (11,true)⟩,⟨.pick (.r 11) (.r 15) (.c (.bool false)),some (8,false)⟩,⟨.pick (.r 8) (.c (.bool true)) (.r 16),none⟩,⟨.mv (.r 17),none⟩] [] [] [(7,18,none)])
 (.drop [4,9] [(true,1)]))
 (.seq (.seq (.reg [⟨.off 29 (.s 5),none⟩,⟨.load 0 false 1 (.r 0),none⟩,⟨.mv (.r 1),none⟩,⟨.off 8 (.s 3),some (2,true)⟩,⟨.load 0 false 1 (.r 3),some (2,true)⟩,⟨.bin .and (.r 4) (.c (.int .i64 2)),some (2,true)⟩,⟨.bin .neq (.r 5) (.c (.int .i64 0)),some (2,true)⟩,⟨.pick (.r 2) (.r 6) (.c (.bool false)),none⟩,⟨.mv (.r 7),none⟩,⟨.off 30 (.s 5),some (8,false)⟩,⟨.load 0 false 1 (.r 9),some (8,false)⟩,⟨.mv (.r 10),some (8,false)⟩,⟨.off 8 (.s 3),some (11,true)⟩,⟨.load 0 false 1 (.r 12),some (11,true)⟩,⟨.bin .and (.r 13) (.c (.int .i64 1)),some (11,true)⟩,⟨.bin .neq (.r 14) (.c (.int .i64 0)),some (11,true)⟩,⟨.pick (.r 11) (.r 15) (.c (.bool false)),some (8,false)⟩,⟨.pick (.r 8) (.c (.bool true)) (.r 16),none⟩,⟨.mv (.r 17),none⟩] [] [] [(8,18,none)])
 (.drop [3,5] [(true,0),(true,2)]))
 (.seq (.seq (.reg [⟨.mv (.s 7),none⟩,⟨.mv (.r 0),none⟩,⟨.mv (.s 8),some (1,true)⟩,⟨.pick (.r 1) (.r 2) (.c (.bool false)),none⟩,⟨.mv (.r 3),none⟩] [] [] [(6,4,none)])
 (.drop [7,8] []))
 (.ret)))))⟩
def h126 : Vm.Hint := ⟨[0,1,2,6],[],[],[[0],[0,0,0,0,0,0,0,0,0,0,0,0,0,0,0,0,0,0,0,0]],[([3],[]),([0,1,2],[])],[]⟩
def ir_rel_Rel_Has : Vm.Fn := ⟨[0,1,2,6],0,0,[.slot 3],.seq (.seq (.reg [⟨.mv (.c (.bool false)),none⟩] [] [] [(3,0,none)])
 (.drop [3] []))
 (.seq (.seq (.reg [⟨.mv (.s 0),none⟩,⟨.mv (.s 1),none⟩,⟨.call .val n_rel_Rel_is [(.r 0),(.r 1)],none⟩,⟨.mv (.r 2),none⟩,⟨.mv (.s 0),some (3,true)⟩,⟨.mv (.s 2),some (3,true)⟩,⟨.call .val n_rel_Rel_is [(.r 4),(.r 5)],some (3,true)⟩,⟨.pick (.r 3) (.r 6) (.c (.bool false)),none⟩,⟨.mv (.r 7),none⟩,⟨.mv (.s 0),some (8,true)⟩,⟨.nilck (.r 9),some (8,true)⟩,⟨.off 0 (.r 10),some (8,true)⟩,⟨.load 0 false 1 (.r 11),some (8,true)⟩,⟨.mv (.s 1),some (8,true)⟩,⟨.iaS 1 (.r 12) (.r 13),some (8,true)⟩,⟨.load 0 false 1 (.r 14),some (8,true)⟩,⟨.mv (.s 2),some (8,true)⟩,⟨.call .val n_rel_row_has [(.r 15),(.r 16)],some (8,true)⟩,⟨.pick (.r 8) (.r 17) (.c (.bool false)),none⟩,⟨.mv (.r 18),none⟩] [] [] [(3,19,none)])
 (.drop [0,1,2] []))
 (.ret))⟩
def h127 : Vm.Hint := ⟨[0,1,2,4],[2],[],[[1,0],[0,0,0,0,0,0,0,0,0,0,0,0,0,0,0,0,0,0,0]],[([0,3],[]),([1,2],[(true,0)])],[]⟩
def ir_cand_has : Vm.Fn := ⟨[0,1,2,4],1,0,[.slot 3],.seq (.seq (.reg [⟨.lbox 0 33 (.s 0),none⟩,⟨.mv (.c (.bool false)),none⟩] [(true,0)] [] [(2,0,some 1),(3,1,none)])
 (.drop [0,3] []))
 (.seq (.seq (.reg [⟨.off 31 (.s 2),none⟩,⟨.load 0 false 1 (.r 0),none⟩,⟨.bin .geq (.r 1) (.c (.int .i64 0)),none⟩,⟨.mv (.r 2),none⟩,⟨.mv (.s 1),some (3,true)⟩,⟨.off 31 (.s 2),some (3,true)⟩,⟨.load 0 false 1 (.r 5),some (3,true)⟩,⟨.bin .geq (.r 4) (.r 6),some (3,true)⟩,⟨.pick (.r 3) (.r 7) (.c (.bool false)),none⟩,⟨.mv (.r 8),none⟩,⟨.mv (.s 1),some (9,true)⟩,⟨.off 31 (.s 2),some (9,true)⟩,⟨.load 0 false 1 (.r 11),some (9,true)⟩,⟨.bin .sub (.r 10) (.r 12),some (9,true)⟩,⟨.off 32 (.s 2),some (9,true)⟩,⟨.load 0 false 1 (.r 14),some (9,true)⟩,⟨.bin .lss (.r 13) (.r 15),some (9,true)⟩,⟨.pick (.r 9) (.r 16) (.c (.bool false)),none⟩,⟨.mv (.r 17),none⟩] [] [] [(3,18,none)])
 (.drop [1,2] [(true,0)]))
 (.ret))⟩
def h133 : Vm.Hint := ⟨[0,1,4,5,7,8,9,16],[],[],[[0],[0,0,0],[0],[0,0],[0,0,0,0,0,1],[0,0],[0,0],[0]],[([2],[]),([],[]),([],[]),([6],[]),([],[]),([0,1,3,4,5,7],[]),([3,7],[]),([0,1,4,5,6],[])],[]⟩
def ir_slices_IndexFunc_api_Event_api_Eventl0 : C :=
 .seq (.reg [⟨.bin .lss (.s 5) (.s 4),none⟩] [] [] [(6,0,none)])
 (.seq (.cond (.s 6) (.skip)
  (.exit 0))
 (.seq (.block 1 (.seq (.seq (.reg [⟨.mv (.s 5),none⟩,⟨.mv (.r 0),none⟩] [] [] [(3,1,none)])
  (.drop [6] []))
  (.seq (.reg [⟨.mv (.s 1),none⟩,⟨.mv (.s 0),none⟩,⟨.mv (.s 3),none⟩,⟨.iaS 33 (.r 1) (.r 2),none⟩,⟨.load 0 true 33 (.r 3),none⟩,⟨.callv .heap (.r 0) [(.r 4)],none⟩] [] [] [(7,5,none)])
  (.cond (.s 7) (.seq (.seq (.reg [⟨.mv (.s 3),none⟩,⟨.mv (.r 0),none⟩] [] [] [(2,1,none)])
   (.drop [0,1,3,4,5,7] []))
   (.ret))
   (.skip)))))
 (.seq (.reg [⟨.bin .add (.s 5) (.c (.int .i64 1)),none⟩,⟨.mv (.r 0),none⟩] [] [] [(5,1,none)])
 (.drop [3,7] []))))
def ir_slices_IndexFunc_api_Event_api_Event : Vm.Fn := ⟨[0,1,4,5,7,8,9,16],0,0,[.slot 2],.seq (.seq (.reg [⟨.mv (.c (.int .i64 0)),none⟩] [] [] [(2,0,none)])
 (.drop [2] []))
 (.seq (.seq (.reg [⟨.mv (.s 0),none⟩,⟨.len 1 (.r 0),none⟩,⟨.mv (.c (.int .i64 0)),none⟩] [] [] [(4,1,none),(5,2,none)])
 (.block 0 (.loop ir_slices_IndexFunc_api_Event_api_Eventl0)))
 (.seq (.seq (.reg [⟨.mv (.c (.int .i64 (-1))),none⟩] [] [] [(2,0,none)])
 (.drop [0,1,4,5,6] []))
 (.ret)))⟩
def h134 : Vm.Hint := ⟨[0,1,2,3,4,5,6,7,8,12],[1],[3],[[1,0],[1],[0,0],[0],[0,0,0,0],[0,0],[0,0,0,0,0],[0,0,0,0,0,0,1,2,0],[0,0],[0,0]],[([0,2],[]),([],[]),([1],[(true,0)]),([],[]),([8],[]),([],[]),([],[]),([9],[]),([4,5,9],[]),([3,6,7,8],[(false,0)])],[]⟩
def ir_deps_set_eachl0 : C :=
 .seq (.seq (.reg [⟨.mv (.s 5),none⟩,⟨.bin .neq (.r 0) (.c (.int .u64 0)),none⟩] [] [] [(9,1,none)])
 (.cond (.s 9) (.skip)
  (.exit 2)))
 (.seq (.block 3 (.seq (.reg [⟨.mv (.s 3),none⟩,⟨.mv (.s 4),none⟩,⟨.bin .mul (.r 1) (.c (.int .i64 64)),none⟩,⟨.mv (.s 5),none⟩,⟨.call .val n_math_bits_TrailingZeros64 [(.r 3)],none⟩,⟨.bin .add (.r 2) (.r 4),none⟩,⟨.lit 1 1 [[.int .i64 0]] [(0,(.r 5))],none⟩,⟨.app 2 1 8 (.r 0) (.r 6),none⟩,⟨.mv (.r 7),none⟩] [] [] [(3,8,some 0)])
  (.drop [9] [])))
 (.reg [⟨.mv (.s 5),none⟩,⟨.mv (.s 5),none⟩,⟨.bin .sub (.r 1) (.c (.int .u64 1)),none⟩,⟨.bin .and (.r 0) (.r 2),none⟩,⟨.mv (.r 3),none⟩] [] [] [(5,4,none)]))
def ir_deps_set_eachl1 : C :=
 .seq (.reg [⟨.bin .lss (.s 7) (.c (.int .i64 8)),none⟩] [] [] [(8,0,none)])
 (.seq (.cond (.s 8) (.skip)
  (.exit 0))
 (.seq (.block 1 (.seq (.seq (.reg [⟨.mv (.s 7),none⟩,⟨.ixA 8 1 false (.s 6) (.s 7),none⟩,⟨.mv (.r 0),none⟩,⟨.mv (.r 1),none⟩] [] [] [(4,2,none),(5,3,none)])
  (.drop [8] []))
  (.block 2 (.loop ir_deps_set_eachl0))))
 (.seq (.reg [⟨.bin .add (.s 7) (.c (.int .i64 1)),none⟩,⟨.mv (.r 0),none⟩] [] [] [(7,1,none)])
 (.drop [4,5,9] []))))
def ir_deps_set_each : Vm.Fn := ⟨[0,1,2,3,4,5,6,7,8,12],1,1,[.slot 2],.seq (.seq (.reg [⟨.lbox 0 8 (.s 0),none⟩,⟨.mv (.c (.nils)),none⟩] [(true,0)] [] [(1,0,some 1),(2,1,none)])
 (.drop [0,2] []))
 (.seq (.reg [⟨.onil 0,none⟩] [(false,0)] [] [(3,0,some 0)])
 (.seq (.seq (.seq (.reg [⟨.load 0 true 8 (.s 1),none⟩,⟨.mv (.c (.int .i64 0)),none⟩] [] [] [(6,0,none),(7,1,none)])
 (.drop [1] [(true,0)]))
 (.block 0 (.loop ir_deps_set_eachl1)))
 (.seq (.seq (.reg [⟨.mv (.s 3),none⟩,⟨.mv (.r 0),none⟩] [] [] [(2,1,none)])
 (.drop [3,6,7,8] [(false,0)]))
 (.ret))))⟩
def h135 : Vm.Hint := ⟨[0,1,2,5,6,7,8,12,16,28],[5,7],[],[[1],[0,0,0],[0,0],[2],[0,0,0,0],[0,0,0],[0,0,0,0,0,0,0,0,0,0],[0,0,0],[0,0,0],[0,0,0,0,0],[0,0,0,0,0,0]],[([2],[]),([],[]),([],[]),([7],[]),([],[]),([],[]),([1,3,6,8],[(true,0)]),([1,8],[]),([6],[]),([3,6,9],[(true,0)]),([0,3,4,5,6,9],[(true,1),(true,0)])],[]⟩
def ir_deps_roots_behind : Vm.Fn := ⟨[0,1,2,5,6,7,8,12,16,28],2,0,[],.seq (.seq (.reg [⟨.lbox 0 9 (.s 2),none⟩] [(true,0)] [] [(3,0,some 1)])
 (.drop [2] []))
 (.seq (.reg [⟨.load 0 true 9 (.s 3),none⟩,⟨.call .val n_ops_Target [(.r 0)],none⟩,⟨.mv (.r 1),none⟩] [] [] [(4,2,none)])
 (.seq (.seq (.reg [⟨.mv (.s 4),none⟩,⟨.bin .eql (.r 0) (.c (.int .i64 0)),none⟩] [] [] [(7,1,none)])
 (.cond (.s 7) (.ret)
  (.skip)))
 (.seq (.seq (.reg [⟨.lalloc 1 zz2,none⟩] [(true,1)] [] [(5,0,some 3)])
 (.drop [7] []))
 (.seq (.seq (.reg [⟨.off 0 (.s 3),none⟩,⟨.load 0 false 1 (.r 0),none⟩,⟨.call .val n_ops_Sort [(.r 1)],none⟩,⟨.mv (.r 2),none⟩] [] [] [(6,3,none)])
 (.block 0 (.seq (.reg [⟨.load 0 true 9 (.s 3),none⟩,⟨.call .val n_deps_gives [(.r 0)],none⟩,⟨.mv (.r 1),none⟩] [] [] [(8,2,none)])
  (.cond (.s 8) (.seq (.reg [⟨.mv (.s 1),none⟩,⟨.bin .quo (.r 0) (.c (.int .i64 64)),none⟩,⟨.iaA 8 1 (.s 5) (.r 1),none⟩,⟨.load 0 false 1 (.r 2),none⟩,⟨.mv (.s 1),none⟩,⟨.bin .rem (.r 4) (.c (.int .i64 64)),none⟩,⟨.bin .shl (.c (.int .u64 1)) (.r 5),none⟩,⟨.bin .or (.r 3) (.r 6),none⟩,⟨.iaA 8 1 (.s 5) (.r 1),none⟩,⟨.store 0 1 (.r 8) (.r 7),none⟩] [] [] [])
   (.drop [1,3,6,8] [(true,0)]))
   (.seq (.seq (.seq (.reg [⟨.mv (.s 6),none⟩,⟨.bin .eql (.r 0) (.c (.int .i64 6)),none⟩,⟨.mv (.r 1),none⟩] [] [] [(9,2,none)])
   (.drop [1,8] []))
   (.cond (.s 9) (.skip)
    (.seq (.reg [⟨.mv (.s 6),none⟩,⟨.bin .eql (.r 0) (.c (.int .i64 7)),none⟩,⟨.mv (.r 1),none⟩] [] [] [(9,2,none)])
    (.drop [6] []))))
   (.cond (.s 9) (.seq (.reg [⟨.mv (.s 0),none⟩,⟨.load 0 true 9 (.s 3),none⟩,⟨.call .val n_ops_Sources [(.r 1)],none⟩,⟨.call .val n_deps_roots_of [(.r 0),(.r 2)],none⟩,⟨.store 0 8 (.s 5) (.r 3),none⟩] [] [] [])
    (.drop [3,6,9] [(true,0)]))
    (.skip)))))))
 (.seq (.reg [⟨.mv (.s 0),none⟩,⟨.mv (.s 4),none⟩,⟨.load 0 true 8 (.s 5),none⟩,⟨.nilck (.r 0),none⟩,⟨.iaA 32 8 (.r 3) (.r 1),none⟩,⟨.store 0 8 (.r 4) (.r 2),none⟩] [] [] [])
 (.drop [0,3,4,5,6,9] [(true,1),(true,0)]))))))⟩
def h136 : Vm.Hint := ⟨[0,2,8],[],[],[[0],[0,0,0,0,0,0],[0],[0,0]],[([1],[]),([],[]),([0,2],[]),([0,2],[])],[]⟩
def ir_ops_register : Vm.Fn := ⟨[0,2,8],0,0,[.slot 1],.seq (.seq (.reg [⟨.mv (.c (.int .i64 0)),none⟩] [] [] [(1,0,none)])
 (.drop [1] []))
 (.seq (.seq (.reg [⟨.mv (.s 0),none⟩,⟨.bin .lss (.r 0) (.c (.int .i64 0)),none⟩,⟨.mv (.r 1),none⟩,⟨.mv (.s 0),some (2,false)⟩,⟨.bin .gtr (.r 3) (.c (.int .i64 31)),some (2,false)⟩,⟨.pick (.r 2) (.c (.bool true)) (.r 4),none⟩] [] [] [(2,5,none)])
 (.cond (.s 2) (.seq (.seq (.reg [⟨.mv (.c (.int .i64 0)),none⟩] [] [] [(1,0,none)])
  (.drop [0,2] []))
  (.ret))
  (.skip)))
 (.seq (.seq (.reg [⟨.mv (.s 0),none⟩,⟨.mv (.r 0),none⟩] [] [] [(1,1,none)])
 (.drop [0,2] []))
 (.ret)))⟩
def h137 : Vm.Hint := ⟨[0,1,2,3,8,9,10,11,21,22,23,24,26,27,28,36],[],[],[[0],[0,0,0,0,0,0,0,0,0,0],[0],[0],[0,0],[0],[0,0],[0,0],[0],[0,0],[0,0,0,0,0,0,0],[0],[0,0],[0,0],[0,0]],[],[]⟩
def ir_word_Overlapl0 : C :=
 .seq (.reg [⟨.bin .lss (.s 13) (.s 12),none⟩] [] [] [(14,0,none)])
 (.seq (.cond (.s 14) (.skip)
  (.exit 2))
 (.seq (.block 3 (.seq (.reg [⟨.mv (.s 13),none⟩,⟨.mv (.r 0),none⟩] [] [] [(7,1,none)])
  (.seq (.reg [⟨.mv (.s 0),none⟩,⟨.mv (.s 6),none⟩,⟨.bin .add (.r 0) (.r 1),none⟩,⟨.mv (.s 2),none⟩,⟨.mv (.s 7),none⟩,⟨.bin .add (.r 3) (.r 4),none⟩,⟨.bin .eql (.r 2) (.r 5),none⟩] [] [] [(15,6,none)])
  (.cond (.s 15) (.seq (.reg [⟨.mv (.c (.bool true)),none⟩] [] [] [(5,0,none)])
   (.exit 0))
   (.skip)))))
 (.reg [⟨.bin .add (.s 13) (.c (.int .i64 1)),none⟩,⟨.mv (.r 0),none⟩] [] [] [(13,1,none)])))
def ir_word_Overlapl1 : C :=
 .seq (.reg [⟨.bin .lss (.s 10) (.s 9),none⟩] [] [] [(11,0,none)])
 (.seq (.cond (.s 11) (.skip)
  (.exit 0))
 (.seq (.block 1 (.seq (.reg [⟨.mv (.s 10),none⟩,⟨.mv (.r 0),none⟩] [] [] [(6,1,none)])
  (.seq (.reg [⟨.mv (.s 3),none⟩,⟨.mv (.c (.int .i64 0)),none⟩] [] [] [(12,0,none),(13,1,none)])
  (.block 2 (.loop ir_word_Overlapl0)))))
 (.reg [⟨.bin .add (.s 10) (.c (.int .i64 1)),none⟩,⟨.mv (.r 0),none⟩] [] [] [(10,1,none)])))
def ir_word_Overlap : Vm.Fn := ⟨[0,1,2,3,8,9,10,11,21,22,23,24,26,27,28,36],0,0,[.slot 4],.seq (.reg [⟨.mv (.c (.bool false)),none⟩] [] [] [(4,0,none)])
 (.seq (.seq (.reg [⟨.mv (.s 0),none⟩,⟨.mv (.s 1),none⟩,⟨.call .val n_word_isRange [(.r 0),(.r 1)],none⟩,⟨.un .not (.r 2),none⟩,⟨.mv (.r 3),none⟩,⟨.mv (.s 2),some (4,false)⟩,⟨.mv (.s 3),some (4,false)⟩,⟨.call .val n_word_isRange [(.r 5),(.r 6)],some (4,false)⟩,⟨.un .not (.r 7),some (4,false)⟩,⟨.pick (.r 4) (.c (.bool true)) (.r 8),none⟩] [] [] [(8,9,none)])
 (.cond (.s 8) (.seq (.reg [⟨.mv (.c (.bool false)),none⟩] [] [] [(4,0,none)])
  (.ret))
  (.skip)))
 (.seq (.reg [⟨.mv (.c (.bool false)),none⟩] [] [] [(5,0,none)])
 (.seq (.seq (.reg [⟨.mv (.s 1),none⟩,⟨.mv (.c (.int .i64 0)),none⟩] [] [] [(9,0,none),(10,1,none)])
 (.block 0 (.loop ir_word_Overlapl1)))
 (.seq (.reg [⟨.mv (.s 5),none⟩,⟨.mv (.r 0),none⟩] [] [] [(4,1,none)])
 (.ret)))))⟩
def h138 : Vm.Hint := ⟨[0,1,4],[],[],[[0],[0,0,0,0,0]],[([2],[]),([0,1],[])],[]⟩
def ir_slices_Contains_int_int : Vm.Fn := ⟨[0,1,4],0,0,[.slot 2],.seq (.seq (.reg [⟨.mv (.c (.bool false)),none⟩] [] [] [(2,0,none)])
 (.drop [2] []))
 (.seq (.seq (.reg [⟨.mv (.s 0),none⟩,⟨.mv (.s 1),none⟩,⟨.call .val n_slices_Index_int_int [(.r 0),(.r 1)],none⟩,⟨.bin .geq (.r 2) (.c (.int .i64 0)),none⟩,⟨.mv (.r 3),none⟩] [] [] [(2,4,none)])
 (.drop [0,1] []))
 (.ret))⟩
def h139 : Vm.Hint := ⟨[0,1,4],[],[],[[0],[0,0,0,0,0,0,0,0,0,0,0]],[([2],[]),([0,1],[])],[]⟩
def ir_rel_row_has : Vm.Fn := ⟨[0,1,4],0,0,[.slot 2],.seq (.seq (.reg [⟨.mv (.c (.bool false)),none⟩] [] [] [(2,0,none)])
 (.drop [2] []))
 (.seq (.seq (.reg [⟨.mv (.s 0),none⟩,⟨.mv (.s 1),none⟩,⟨.bin .quo (.r 1) (.c (.int .i64 64)),none⟩,⟨.iaS 1 (.r 0) (.r 2),none⟩,⟨.load 0 false 1 (.r 3),none⟩,⟨.mv (.s 1),none⟩,⟨.bin .rem (.r 5) (.c (.int .i64 64)),none⟩,⟨.bin .shr (.r 4) (.r 6),none⟩,⟨.bin .and (.r 7) (.c (.int .u64 1)),none⟩,⟨.bin .eql (.r 8) (.c (.int .u64 1)),none⟩,⟨.mv (.r 9),none⟩] [] [] [(2,10,none)])
 (.drop [0,1] []))
 (.ret))⟩
def h141 : Vm.Hint := ⟨[0,1,2,5,6],[1],[],[[1,0],[0,0,0],[0,0],[0,0],[0,0],[0,0],[0,0],[0],[0,0,0,0]],[([0,2],[]),([],[]),([],[]),([],[]),([],[]),([],[]),([3],[]),([1,3,4],[(true,0)]),([1,3,4],[(true,0)])],[]⟩
def ir_ops_Target : Vm.Fn := ⟨[0,1,2,5,6],1,0,[.slot 2],.seq (.seq (.reg [⟨.lbox 0 9 (.s 0),none⟩,⟨.mv (.c (.int .i64 0)),none⟩] [(true,0)] [] [(1,0,some 1),(2,1,none)])
 (.drop [0,2] []))
 (.seq (.seq (.reg [⟨.off 0 (.s 1),none⟩,⟨.load 0 false 1 (.r 0),none⟩,⟨.call .val n_ops_Sort [(.r 1)],none⟩] [] [] [(3,2,none)])
 (.block 0 (.seq (.seq (.reg [⟨.bin .eql (.s 3) (.c (.int .i64 0)),none⟩,⟨.mv (.r 0),none⟩] [] [] [(4,1,none)])
  (.cond (.s 4) (.skip)
   (.seq (.reg [⟨.bin .eql (.s 3) (.c (.int .i64 3)),none⟩,⟨.mv (.r 0),none⟩] [] [] [(4,1,none)])
   (.cond (.s 4) (.skip)
    (.seq (.reg [⟨.bin .eql (.s 3) (.c (.int .i64 5)),none⟩,⟨.mv (.r 0),none⟩] [] [] [(4,1,none)])
    (.cond (.s 4) (.skip)
     (.seq (.reg [⟨.bin .eql (.s 3) (.c (.int .i64 8)),none⟩,⟨.mv (.r 0),none⟩] [] [] [(4,1,none)])
     (.cond (.s 4) (.skip)
      (.seq (.reg [⟨.bin .eql (.s 3) (.c (.int .i64 9)),none⟩,⟨.mv (.r 0),none⟩] [] [] [(4,1,none)])
      (.drop [3] []))))))))))
  (.cond (.s 4) (.seq (.seq (.reg [⟨.mv (.c (.int .i64 0)),none⟩] [] [] [(2,0,none)])
   (.drop [1,3,4] [(true,0)]))
   (.ret))
   (.skip)))))
 (.seq (.seq (.reg [⟨.off 1 (.s 1),none⟩,⟨.load 0 false 1 (.r 0),none⟩,⟨.call .val n_ops_register [(.r 1)],none⟩,⟨.mv (.r 2),none⟩] [] [] [(2,3,none)])
 (.drop [1,3,4] [(true,0)]))
 (.ret)))⟩
def h142 : Vm.Hint := ⟨[0,1,2,5,6],[1],[],[[1,0],[0,0,0],[0,0],[0,0],[0,0],[0,0],[0],[0]],[([0,2],[]),([1],[(true,0)]),([],[]),([],[]),([],[]),([3],[]),([3,4],[]),([3,4],[])],[]⟩
def ir_deps_gives : Vm.Fn := ⟨[0,1,2,5,6],1,0,[.slot 2],.seq (.seq (.reg [⟨.lbox 0 9 (.s 0),none⟩,⟨.mv (.c (.bool false)),none⟩] [(true,0)] [] [(1,0,some 1),(2,1,none)])
 (.drop [0,2] []))
 (.seq (.seq (.seq (.reg [⟨.off 0 (.s 1),none⟩,⟨.load 0 false 1 (.r 0),none⟩,⟨.call .val n_ops_Sort [(.r 1)],none⟩] [] [] [(3,2,none)])
 (.drop [1] [(true,0)]))
 (.block 0 (.seq (.seq (.reg [⟨.bin .eql (.s 3) (.c (.int .i64 4)),none⟩,⟨.mv (.r 0),none⟩] [] [] [(4,1,none)])
  (.cond (.s 4) (.skip)
   (.seq (.reg [⟨.bin .eql (.s 3) (.c (.int .i64 10)),none⟩,⟨.mv (.r 0),none⟩] [] [] [(4,1,none)])
   (.cond (.s 4) (.skip)
    (.seq (.reg [⟨.bin .eql (.s 3) (.c (.int .i64 11)),none⟩,⟨.mv (.r 0),none⟩] [] [] [(4,1,none)])
    (.cond (.s 4) (.skip)
     (.seq (.reg [⟨.bin .eql (.s 3) (.c (.int .i64 12)),none⟩,⟨.mv (.r 0),none⟩] [] [] [(4,1,none)])
     (.drop [3] []))))))))
  (.cond (.s 4) (.seq (.seq (.reg [⟨.mv (.c (.bool true)),none⟩] [] [] [(2,0,none)])
   (.drop [3,4] []))
   (.ret))
   (.skip)))))
 (.seq (.seq (.reg [⟨.mv (.c (.bool false)),none⟩] [] [] [(2,0,none)])
 (.drop [3,4] []))
 (.ret)))⟩
def h143 : Vm.Hint := ⟨[0,1,4],[],[],[[0],[0,0,0,0,0,0,0,0,0,0,0,0,0,0,0]],[],[]⟩
def ir_word_isRange : Vm.Fn := ⟨[0,1,4],0,0,[.slot 2],.seq (.reg [⟨.mv (.c (.bool false)),none⟩] [] [] [(2,0,none)])
 (.seq (.reg [⟨.mv (.s 0),none⟩,⟨.bin .geq (.r 0) (.c (.int .i64 0)),none⟩,⟨.mv (.r 1),none⟩,⟨.mv (.s 0),some (2,true)⟩,⟨.bin .leq (.r 3) (.c (.int .i64 1099511627776)),some (2,true)⟩,⟨.pick (.r 2) (.r 4) (.c (.bool false)),none⟩,⟨.mv (.r 5),none⟩,⟨.mv (.s 1),some (6,true)⟩,⟨.bin .geq (.r 7) (.c (.int .i64 1)),some (6,true)⟩,⟨.pick (.r 6) (.r 8) (.c (.bool false)),none⟩,⟨.mv (.r 9),none⟩,⟨.mv (.s 1),some (10,true)⟩,⟨.bin .leq (.r 11) (.c (.int .i64 8)),some (10,true)⟩,⟨.pick (.r 10) (.r 12) (.c (.bool false)),none⟩,⟨.mv (.r 13),none⟩] [] [] [(2,14,none)])
 (.ret))⟩
def h144 : Vm.Hint := ⟨[0,1,4,5,7,8,9,16],[],[],[[0],[0,0,0],[0],[0,0],[0,0,0,0,0,0],[0,0],[0,0],[0]],[([2],[]),([],[]),([],[]),([6],[]),([],[]),([0,1,3,4,5,7],[]),([3,7],[]),([0,1,4,5,6],[])],[]⟩
def ir_slices_Index_int_intl0 : C :=
 .seq (.reg [⟨.bin .lss (.s 5) (.s 4),none⟩] [] [] [(6,0,none)])
 (.seq (.cond (.s 6) (.skip)
  (.exit 0))
 (.seq (.block 1 (.seq (.seq (.reg [⟨.mv (.s 5),none⟩,⟨.mv (.r 0),none⟩] [] [] [(3,1,none)])
  (.drop [6] []))
  (.seq (.reg [⟨.mv (.s 1),none⟩,⟨.mv (.s 0),none⟩,⟨.mv (.s 3),none⟩,⟨.iaS 1 (.r 1) (.r 2),none⟩,⟨.load 0 false 1 (.r 3),none⟩,⟨.bin .eql (.r 0) (.r 4),none⟩] [] [] [(7,5,none)])
  (.cond (.s 7) (.seq (.seq (.reg [⟨.mv (.s 3),none⟩,⟨.mv (.r 0),none⟩] [] [] [(2,1,none)])
   (.drop [0,1,3,4,5,7] []))
   (.ret))
   (.skip)))))
 (.seq (.reg [⟨.bin .add (.s 5) (.c (.int .i64 1)),none⟩,⟨.mv (.r 0),none⟩] [] [] [(5,1,none)])
 (.drop [3,7] []))))
def ir_slices_Index_int_int : Vm.Fn := ⟨[0,1,4,5,7,8,9,16],0,0,[.slot 2],.seq (.seq (.reg [⟨.mv (.c (.int .i64 0)),none⟩] [] [] [(2,0,none)])
 (.drop [2] []))
 (.seq (.seq (.reg [⟨.mv (.s 0),none⟩,⟨.len 1 (.r 0),none⟩,⟨.mv (.c (.int .i64 0)),none⟩] [] [] [(4,1,none),(5,2,none)])
 (.block 0 (.loop ir_slices_Index_int_intl0)))
 (.seq (.seq (.reg [⟨.mv (.c (.int .i64 (-1))),none⟩] [] [] [(2,0,none)])
 (.drop [0,1,4,5,6] []))
 (.ret)))⟩
def hl : List (Nat × Vm.Hint) := [(6,h6),(7,h7),(8,h8),(9,h9),(11,h11),(12,h12),(13,h13),(14,h14),(15,h15),(16,h16),(17,h17),(18,h18),(19,h19),(20,h20),(21,h21),(22,h22),(23,h23),(33,h33),(34,h34),(35,h35),(36,h36),(37,h37),(38,h38),(39,h39),(40,h40),(41,h41),(42,h42),(43,h43),(44,h44),(45,h45),(46,h46),(47,h47),(56,h56),(57,h57),(58,h58),(59,h59),(60,h60),(61,h61),(62,h62),(63,h63),(64,h64),(65,h65),(66,h66),(67,h67),(68,h68),(69,h69),(70,h70),(71,h71),(72,h72),(73,h73),(74,h74),(75,h75),(76,h76),(77,h77),(78,h78),(79,h79),(80,h80),(81,h81),(82,h82),(83,h83),(84,h84),(85,h85),(86,h86),(87,h87),(88,h88),(89,h89),(90,h90),(91,h91),(92,h92),(93,h93),(94,h94),(95,h95),(103,h103),(104,h104),(105,h105),(106,h106),(107,h107),(108,h108),(109,h109),(110,h110),(111,h111),(112,h112),(113,h113),(114,h114),(115,h115),(116,h116),(117,h117),(118,h118),(119,h119),(120,h120),(121,h121),(122,h122),(123,h123),(124,h124),(125,h125),(126,h126),(127,h127),(133,h133),(134,h134),(135,h135),(136,h136),(137,h137),(138,h138),(139,h139),(141,h141),(142,h142),(143,h143),(144,h144)]
def hints (f : Nat) : Option Vm.Hint := hl.lookup f
noncomputable abbrev pg : Vm.Pg := pgOf Go.Proofs.Tryz.prog hints glT
theorem fn_undertowlaw23_GmoHarts : pg.fn 6 = some ir_undertowlaw23_GmoHarts := by kernel_rfl
theorem fn_undertowlaw23_alive : pg.fn 7 = some ir_undertowlaw23_alive := by kernel_rfl
theorem fn_undertowref20_Great : pg.fn 8 = some ir_undertowref20_Great := by kernel_rfl
theorem fn_gmo_Judge : pg.fn 9 = some ir_gmo_Judge := by kernel_rfl
theorem fn_gmo_Search : pg.fn 11 = some ir_gmo_Search := by kernel_rfl
theorem fn_gmo_Must : pg.fn 12 = some ir_gmo_Must := by kernel_rfl
theorem fn_cand_Check : pg.fn 13 = some ir_cand_Check := by kernel_rfl
theorem fn_rel_Rel_Fits : pg.fn 14 = some ir_rel_Rel_Fits := by kernel_rfl
theorem fn_undertowlaw23_one : pg.fn 15 = some ir_undertowlaw23_one := by kernel_rfl
theorem fn_rel_Rel_Len : pg.fn 16 = some ir_rel_Rel_Len := by kernel_rfl
theorem fn_gmo_look : pg.fn 17 = some ir_gmo_look := by kernel_rfl
theorem fn_gmo_view_places : pg.fn 18 = some ir_gmo_view_places := by kernel_rfl
theorem fn_ppo_All : pg.fn 19 = some ir_ppo_All := by kernel_rfl
theorem fn_gmo_view_ordered : pg.fn 20 = some ir_gmo_view_ordered := by kernel_rfl
theorem fn_gmo_view_latest : pg.fn 21 = some ir_gmo_view_latest := by kernel_rfl
theorem fn_gmo_view_atomic : pg.fn 22 = some ir_gmo_view_atomic := by kernel_rfl
theorem fn_gmo_Judge_1 : pg.fn 23 = some ir_gmo_Judge_1 := by kernel_rfl
theorem fn_gmo_view_may : pg.fn 33 = some ir_gmo_view_may := by kernel_rfl
theorem fn_gmo_view_must : pg.fn 34 = some ir_gmo_view_must := by kernel_rfl
theorem fn_rel_Rel_Order : pg.fn 35 = some ir_rel_Rel_Order := by kernel_rfl
theorem fn_cand_Events : pg.fn 36 = some ir_cand_Events := by kernel_rfl
theorem fn_cand_faults : pg.fn 37 = some ir_cand_faults := by kernel_rfl
theorem fn_rel_Rel_is : pg.fn 38 = some ir_rel_Rel_is := by kernel_rfl
theorem fn_rel_Rel_Pairs : pg.fn 39 = some ir_rel_Rel_Pairs := by kernel_rfl
theorem fn_ppo_look : pg.fn 40 = some ir_ppo_look := by kernel_rfl
theorem fn_rel_New : pg.fn 41 = some ir_rel_New := by kernel_rfl
theorem fn_ppo_rules : pg.fn 42 = some ir_ppo_rules := by kernel_rfl
theorem fn_ppo_view_into : pg.fn 43 = some ir_ppo_view_into := by kernel_rfl
theorem fn_gmo_view_stores : pg.fn 44 = some ir_gmo_view_stores := by kernel_rfl
theorem fn_gmo_view_ahead : pg.fn 45 = some ir_gmo_view_ahead := by kernel_rfl
theorem fn_gmo_view_named : pg.fn 46 = some ir_gmo_view_named := by kernel_rfl
theorem fn_gmo_view_pair : pg.fn 47 = some ir_gmo_view_pair := by kernel_rfl
theorem fn_gmo_view_stale : pg.fn 56 = some ir_gmo_view_stale := by kernel_rfl
theorem fn_gmo_view_may_1 : pg.fn 57 = some ir_gmo_view_may_1 := by kernel_rfl
theorem fn_rel_Rel_Add : pg.fn 58 = some ir_rel_Rel_Add := by kernel_rfl
theorem fn_gmo_view_read : pg.fn 59 = some ir_gmo_view_read := by kernel_rfl
theorem fn_rel_row_each : pg.fn 60 = some ir_rel_row_each := by kernel_rfl
theorem fn_cand_isEvent : pg.fn 61 = some ir_cand_isEvent := by kernel_rfl
theorem fn_ops_Loads : pg.fn 62 = some ir_ops_Loads := by kernel_rfl
theorem fn_ops_Stores : pg.fn 63 = some ir_ops_Stores := by kernel_rfl
theorem fn_ops_Size : pg.fn 64 = some ir_ops_Size := by kernel_rfl
theorem fn_cand_look_image : pg.fn 65 = some ir_cand_look_image := by kernel_rfl
theorem fn_cand_look_many : pg.fn 66 = some ir_cand_look_many := by kernel_rfl
theorem fn_cand_look_ids : pg.fn 67 = some ir_cand_look_ids := by kernel_rfl
theorem fn_cand_look_places : pg.fn 68 = some ir_cand_look_places := by kernel_rfl
theorem fn_cand_look_tags : pg.fn 69 = some ir_cand_look_tags := by kernel_rfl
theorem fn_cand_look_bytes : pg.fn 70 = some ir_cand_look_bytes := by kernel_rfl
theorem fn_cand_look_orders : pg.fn 71 = some ir_cand_look_orders := by kernel_rfl
theorem fn_cand_look_pairs : pg.fn 72 = some ir_cand_look_pairs := by kernel_rfl
theorem fn_deps_Address : pg.fn 73 = some ir_deps_Address := by kernel_rfl
theorem fn_deps_Data : pg.fn 74 = some ir_deps_Data := by kernel_rfl
theorem fn_deps_Course : pg.fn 75 = some ir_deps_Course := by kernel_rfl
theorem fn_ppo_view_same : pg.fn 76 = some ir_ppo_view_same := by kernel_rfl
theorem fn_ppo_view_loads : pg.fn 77 = some ir_ppo_view_loads := by kernel_rfl
theorem fn_ppo_view_written : pg.fn 78 = some ir_ppo_view_written := by kernel_rfl
theorem fn_ppo_view_fenced : pg.fn 79 = some ir_ppo_view_fenced := by kernel_rfl
theorem fn_ppo_rules_1 : pg.fn 80 = some ir_ppo_rules_1 := by kernel_rfl
theorem fn_ppo_rules_2 : pg.fn 81 = some ir_ppo_rules_2 := by kernel_rfl
theorem fn_ppo_rules_3 : pg.fn 82 = some ir_ppo_rules_3 := by kernel_rfl
theorem fn_ppo_strong : pg.fn 83 = some ir_ppo_strong := by kernel_rfl
theorem fn_ppo_view_paired : pg.fn 84 = some ir_ppo_view_paired := by kernel_rfl
theorem fn_ppo_rules_4 : pg.fn 85 = some ir_ppo_rules_4 := by kernel_rfl
theorem fn_ppo_view_hangs : pg.fn 86 = some ir_ppo_view_hangs := by kernel_rfl
theorem fn_ppo_byAddress : pg.fn 87 = some ir_ppo_byAddress := by kernel_rfl
theorem fn_ppo_rules_5 : pg.fn 88 = some ir_ppo_rules_5 := by kernel_rfl
theorem fn_ppo_byData : pg.fn 89 = some ir_ppo_byData := by kernel_rfl
theorem fn_ppo_rules_6 : pg.fn 90 = some ir_ppo_rules_6 := by kernel_rfl
theorem fn_ppo_byCourse : pg.fn 91 = some ir_ppo_byCourse := by kernel_rfl
theorem fn_ppo_view_through : pg.fn 92 = some ir_ppo_view_through := by kernel_rfl
theorem fn_ppo_view_known : pg.fn 93 = some ir_ppo_view_known := by kernel_rfl
theorem fn_cand_Byte : pg.fn 94 = some ir_cand_Byte := by kernel_rfl
theorem fn_ops_Sort : pg.fn 95 = some ir_ops_Sort := by kernel_rfl
theorem fn_rel_row_add : pg.fn 103 = some ir_rel_row_add := by kernel_rfl
theorem fn_math_bits_TrailingZeros64 : pg.fn 104 = some ir_math_bits_TrailingZeros64 := by kernel_rfl
theorem fn_ops_Memory : pg.fn 105 = some ir_ops_Memory := by kernel_rfl
theorem fn_slices_ContainsFunc_api_Event_api_Event : pg.fn 106 = some ir_slices_ContainsFunc_api_Event_api_Event := by kernel_rfl
theorem fn_cand_look_places_1 : pg.fn 107 = some ir_cand_look_places_1 := by kernel_rfl
theorem fn_alu_Where : pg.fn 108 = some ir_alu_Where := by kernel_rfl
theorem fn_cand_look_writer : pg.fn 109 = some ir_cand_look_writer := by kernel_rfl
theorem fn_word_Zext : pg.fn 110 = some ir_word_Zext := by kernel_rfl
theorem fn_word_Bytes : pg.fn 111 = some ir_word_Bytes := by kernel_rfl
theorem fn_deps_along : pg.fn 112 = some ir_deps_along := by kernel_rfl
theorem fn_deps_Address_1 : pg.fn 113 = some ir_deps_Address_1 := by kernel_rfl
theorem fn_deps_roots_of : pg.fn 114 = some ir_deps_roots_of := by kernel_rfl
theorem fn_deps_first : pg.fn 115 = some ir_deps_first := by kernel_rfl
theorem fn_deps_Data_1 : pg.fn 116 = some ir_deps_Data_1 := by kernel_rfl
theorem fn_deps_second : pg.fn 117 = some ir_deps_second := by kernel_rfl
theorem fn_deps_Course_1 : pg.fn 118 = some ir_deps_Course_1 := by kernel_rfl
theorem fn_deps_set_join : pg.fn 119 = some ir_deps_set_join := by kernel_rfl
theorem fn_ops_Sources : pg.fn 120 = some ir_ops_Sources := by kernel_rfl
theorem fn_ppo_overlap : pg.fn 121 = some ir_ppo_overlap := by kernel_rfl
theorem fn_ppo_has : pg.fn 122 = some ir_ppo_has := by kernel_rfl
theorem fn_ppo_view_between : pg.fn 123 = some ir_ppo_view_between := by kernel_rfl
theorem fn_ppo_returns : pg.fn 124 = some ir_ppo_returns := by kernel_rfl
theorem fn_ppo_orders : pg.fn 125 = some ir_ppo_orders := by kernel_rfl
theorem fn_rel_Rel_Has : pg.fn 126 = some ir_rel_Rel_Has := by kernel_rfl
theorem fn_cand_has : pg.fn 127 = some ir_cand_has := by kernel_rfl
theorem fn_slices_IndexFunc_api_Event_api_Event : pg.fn 133 = some ir_slices_IndexFunc_api_Event_api_Event := by kernel_rfl
theorem fn_deps_set_each : pg.fn 134 = some ir_deps_set_each := by kernel_rfl
theorem fn_deps_roots_behind : pg.fn 135 = some ir_deps_roots_behind := by kernel_rfl
theorem fn_ops_register : pg.fn 136 = some ir_ops_register := by kernel_rfl
theorem fn_word_Overlap : pg.fn 137 = some ir_word_Overlap := by kernel_rfl
theorem fn_slices_Contains_int_int : pg.fn 138 = some ir_slices_Contains_int_int := by kernel_rfl
theorem fn_rel_row_has : pg.fn 139 = some ir_rel_row_has := by kernel_rfl
theorem fn_ops_Target : pg.fn 141 = some ir_ops_Target := by kernel_rfl
theorem fn_deps_gives : pg.fn 142 = some ir_deps_gives := by kernel_rfl
theorem fn_word_isRange : pg.fn 143 = some ir_word_isRange := by kernel_rfl
theorem fn_slices_Index_int_int : pg.fn 144 = some ir_slices_Index_int_int := by kernel_rfl
def irL : List (Nat × Vm.Fn) := [(6, ir_undertowlaw23_GmoHarts), (7, ir_undertowlaw23_alive), (8, ir_undertowref20_Great), (9, ir_gmo_Judge), (11, ir_gmo_Search), (12, ir_gmo_Must), (13, ir_cand_Check), (14, ir_rel_Rel_Fits), (15, ir_undertowlaw23_one), (16, ir_rel_Rel_Len), (17, ir_gmo_look), (18, ir_gmo_view_places), (19, ir_ppo_All), (20, ir_gmo_view_ordered), (21, ir_gmo_view_latest), (22, ir_gmo_view_atomic), (23, ir_gmo_Judge_1), (33, ir_gmo_view_may), (34, ir_gmo_view_must), (35, ir_rel_Rel_Order), (36, ir_cand_Events), (37, ir_cand_faults), (38, ir_rel_Rel_is), (39, ir_rel_Rel_Pairs), (40, ir_ppo_look), (41, ir_rel_New), (42, ir_ppo_rules), (43, ir_ppo_view_into), (44, ir_gmo_view_stores), (45, ir_gmo_view_ahead), (46, ir_gmo_view_named), (47, ir_gmo_view_pair), (56, ir_gmo_view_stale), (57, ir_gmo_view_may_1), (58, ir_rel_Rel_Add), (59, ir_gmo_view_read), (60, ir_rel_row_each), (61, ir_cand_isEvent), (62, ir_ops_Loads), (63, ir_ops_Stores), (64, ir_ops_Size), (65, ir_cand_look_image), (66, ir_cand_look_many), (67, ir_cand_look_ids), (68, ir_cand_look_places), (69, ir_cand_look_tags), (70, ir_cand_look_bytes), (71, ir_cand_look_orders), (72, ir_cand_look_pairs), (73, ir_deps_Address), (74, ir_deps_Data), (75, ir_deps_Course), (76, ir_ppo_view_same), (77, ir_ppo_view_loads), (78, ir_ppo_view_written), (79, ir_ppo_view_fenced), (80, ir_ppo_rules_1), (81, ir_ppo_rules_2), (82, ir_ppo_rules_3), (83, ir_ppo_strong), (84, ir_ppo_view_paired), (85, ir_ppo_rules_4), (86, ir_ppo_view_hangs), (87, ir_ppo_byAddress), (88, ir_ppo_rules_5), (89, ir_ppo_byData), (90, ir_ppo_rules_6), (91, ir_ppo_byCourse), (92, ir_ppo_view_through), (93, ir_ppo_view_known), (94, ir_cand_Byte), (95, ir_ops_Sort), (103, ir_rel_row_add), (104, ir_math_bits_TrailingZeros64), (105, ir_ops_Memory), (106, ir_slices_ContainsFunc_api_Event_api_Event), (107, ir_cand_look_places_1), (108, ir_alu_Where), (109, ir_cand_look_writer), (110, ir_word_Zext), (111, ir_word_Bytes), (112, ir_deps_along), (113, ir_deps_Address_1), (114, ir_deps_roots_of), (115, ir_deps_first), (116, ir_deps_Data_1), (117, ir_deps_second), (118, ir_deps_Course_1), (119, ir_deps_set_join), (120, ir_ops_Sources), (121, ir_ppo_overlap), (122, ir_ppo_has), (123, ir_ppo_view_between), (124, ir_ppo_returns), (125, ir_ppo_orders), (126, ir_rel_Rel_Has), (127, ir_cand_has), (133, ir_slices_IndexFunc_api_Event_api_Event), (134, ir_deps_set_each), (135, ir_deps_roots_behind), (136, ir_ops_register), (137, ir_word_Overlap), (138, ir_slices_Contains_int_int), (139, ir_rel_row_has), (141, ir_ops_Target), (142, ir_deps_gives), (143, ir_word_isRange), (144, ir_slices_Index_int_int)]
theorem irL_ok : ∀ q ∈ irL, pg.fn q.1 = some q.2 := by
  simp only [irL, List.forall_mem_cons]
  exact ⟨fn_undertowlaw23_GmoHarts, fn_undertowlaw23_alive, fn_undertowref20_Great, fn_gmo_Judge, fn_gmo_Search, fn_gmo_Must, fn_cand_Check, fn_rel_Rel_Fits, fn_undertowlaw23_one, fn_rel_Rel_Len, fn_gmo_look, fn_gmo_view_places, fn_ppo_All, fn_gmo_view_ordered, fn_gmo_view_latest, fn_gmo_view_atomic, fn_gmo_Judge_1, fn_gmo_view_may, fn_gmo_view_must, fn_rel_Rel_Order, fn_cand_Events, fn_cand_faults, fn_rel_Rel_is, fn_rel_Rel_Pairs, fn_ppo_look, fn_rel_New, fn_ppo_rules, fn_ppo_view_into, fn_gmo_view_stores, fn_gmo_view_ahead, fn_gmo_view_named, fn_gmo_view_pair, fn_gmo_view_stale, fn_gmo_view_may_1, fn_rel_Rel_Add, fn_gmo_view_read, fn_rel_row_each, fn_cand_isEvent, fn_ops_Loads, fn_ops_Stores, fn_ops_Size, fn_cand_look_image, fn_cand_look_many, fn_cand_look_ids, fn_cand_look_places, fn_cand_look_tags, fn_cand_look_bytes, fn_cand_look_orders, fn_cand_look_pairs, fn_deps_Address, fn_deps_Data, fn_deps_Course, fn_ppo_view_same, fn_ppo_view_loads, fn_ppo_view_written, fn_ppo_view_fenced, fn_ppo_rules_1, fn_ppo_rules_2, fn_ppo_rules_3, fn_ppo_strong, fn_ppo_view_paired, fn_ppo_rules_4, fn_ppo_view_hangs, fn_ppo_byAddress, fn_ppo_rules_5, fn_ppo_byData, fn_ppo_rules_6, fn_ppo_byCourse, fn_ppo_view_through, fn_ppo_view_known, fn_cand_Byte, fn_ops_Sort, fn_rel_row_add, fn_math_bits_TrailingZeros64, fn_ops_Memory, fn_slices_ContainsFunc_api_Event_api_Event, fn_cand_look_places_1, fn_alu_Where, fn_cand_look_writer, fn_word_Zext, fn_word_Bytes, fn_deps_along, fn_deps_Address_1, fn_deps_roots_of, fn_deps_first, fn_deps_Data_1, fn_deps_second, fn_deps_Course_1, fn_deps_set_join, fn_ops_Sources, fn_ppo_overlap, fn_ppo_has, fn_ppo_view_between, fn_ppo_returns, fn_ppo_orders, fn_rel_Rel_Has, fn_cand_has, fn_slices_IndexFunc_api_Event_api_Event, fn_deps_set_each, fn_deps_roots_behind, fn_ops_register, fn_word_Overlap, fn_slices_Contains_int_int, fn_rel_row_has, fn_ops_Target, fn_deps_gives, fn_word_isRange, fn_slices_Index_int_int, by simp⟩
end Go.Proofs.YtimiademofajeaaGreatDoor
