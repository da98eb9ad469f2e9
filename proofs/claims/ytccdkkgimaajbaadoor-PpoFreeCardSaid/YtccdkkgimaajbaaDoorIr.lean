/- The functions' own form, printed by a tool of this session out of the given translation. -/
import Derived.Test.YtccdkkgimaajbaaDoorVf
import Derived.Test.YtccdkkgimaajbaaDoorChecked
import Derived.KernelRfl
namespace Go.Proofs.YtccdkkgimaajbaaDoor
open Go Go.Vm
def glN : List Int := [0, 1, 56, 2, 57, 49, 28, 3, 61, 58, 42, 50, 38, 29, 17, 4, 62, 47, 59, 36, 45, 43, 51, 22, 53, 39, 33, 30, 24, 18, 12, 5, 63, 55, 48, 27, 60, 41, 37, 16, 46, 35, 44, 21, 52, 32, 23, 11, 54, 26, 40, 15, 34, 20, 31, 10, 25, 14, 19, 9, 13, 8, 7, 6]
def glV : List V := glN.map (.int .u8)
def glT : List (Nat × List V) := [(0, glV)]
abbrev n_undertowlaw22_PpoAhead : Nat := 3
abbrev n_undertowlaw22_PpoMore : Nat := 4
abbrev n_undertowlaw22_PpoFree : Nat := 5
abbrev n_undertowlaw22_PpoCut : Nat := 6
abbrev n_undertowlaw22_alive : Nat := 7
abbrev n_undertowref20_Great : Nat := 8
abbrev n_cand_Events : Nat := 9
abbrev n_ppo_All : Nat := 10
abbrev n_rel_Rel_Pairs : Nat := 11
abbrev n_rel_Rel_Len : Nat := 12
abbrev n_rel_Rel_Has : Nat := 13
abbrev n_undertowlaw22_one : Nat := 14
abbrev n_undertowref05_Sort : Nat := 15
abbrev n_ppo_Rule : Nat := 16
abbrev n_cand_isEvent : Nat := 17
abbrev n_ops_Loads : Nat := 18
abbrev n_ops_Stores : Nat := 19
abbrev n_ops_Size : Nat := 20
abbrev n_ppo_look : Nat := 21
abbrev n_rel_New : Nat := 22
abbrev n_ppo_rules : Nat := 23
abbrev n_ppo_view_into : Nat := 24
abbrev n_rel_row_each : Nat := 25
abbrev n_rel_Rel_is : Nat := 26
abbrev n_rel_row_has : Nat := 27
abbrev n_ops_Memory : Nat := 28
abbrev n_ops_Sort : Nat := 29
abbrev n_deps_Address : Nat := 30
abbrev n_deps_Data : Nat := 31
abbrev n_deps_Course : Nat := 32
abbrev n_ppo_view_same : Nat := 33
abbrev n_ppo_view_loads : Nat := 34
abbrev n_ppo_view_written : Nat := 35
abbrev n_ppo_view_fenced : Nat := 36
abbrev n_ppo_rules_1 : Nat := 37
abbrev n_ppo_rules_2 : Nat := 38
abbrev n_ppo_rules_3 : Nat := 39
abbrev n_ppo_strong : Nat := 40
abbrev n_ppo_view_paired : Nat := 41
abbrev n_ppo_rules_4 : Nat := 42
abbrev n_ppo_view_hangs : Nat := 43
abbrev n_ppo_byAddress : Nat := 44
abbrev n_ppo_rules_5 : Nat := 45
abbrev n_ppo_byData : Nat := 46
abbrev n_ppo_rules_6 : Nat := 47
abbrev n_ppo_byCourse : Nat := 48
abbrev n_ppo_view_through : Nat := 49
abbrev n_ppo_view_known : Nat := 50
abbrev n_rel_Rel_Add : Nat := 51
abbrev n_math_bits_TrailingZeros64 : Nat := 52
abbrev n_deps_along : Nat := 53
abbrev n_deps_Address_1 : Nat := 54
abbrev n_deps_roots_of : Nat := 55
abbrev n_deps_first : Nat := 56
abbrev n_deps_Data_1 : Nat := 57
abbrev n_deps_second : Nat := 58
abbrev n_deps_Course_1 : Nat := 59
abbrev n_deps_set_join : Nat := 60
abbrev n_ops_Sources : Nat := 61
abbrev n_ppo_overlap : Nat := 62
abbrev n_ppo_has : Nat := 63
abbrev n_ppo_view_between : Nat := 64
abbrev n_ppo_returns : Nat := 65
abbrev n_ppo_orders : Nat := 66
abbrev n_rel_row_add : Nat := 67
abbrev n_deps_set_each : Nat := 68
abbrev n_deps_roots_behind : Nat := 69
abbrev n_ops_register : Nat := 70
abbrev n_word_Overlap : Nat := 71
abbrev n_slices_Contains_int_int : Nat := 72
abbrev n_ops_Target : Nat := 73
abbrev n_deps_gives : Nat := 74
abbrev n_word_isRange : Nat := 75
abbrev n_slices_Index_int_int : Nat := 76
/-- 3: undertow/undertowlaw22.PpoAhead -/
def h3 : Vm.Hint := ⟨[0, 1, 2, 3, 4, 5, 6, 7, 8, 10, 12, 23, 53], [1, 7, 8], [], [[1, 0], [0, 0], [0], [0, 0], [0, 0], [0, 0, 0], [0, 0, 0], [0, 0, 0], [0], [0, 0, 0, 0], [0, 0, 0], [0, 0, 0, 0, 0, 0, 0, 0, 0, 0, 0, 0, 0, 0, 0, 0, 2, 3, 0, 0], [0, 0, 0, 0, 0, 0, 0, 0, 0, 0, 0, 0], [0], [0, 0, 0, 0, 0, 0, 0, 0, 0]], [([0, 2], []), ([], []), ([1, 9], [(true, 0)]), ([9], []), ([1, 10], [(true, 0)]), ([10], []), ([1], [(true, 0)]), ([], []), ([], []), ([], []), ([12], []), ([11], []), ([7, 8], [(true, 1), (true, 2)]), ([3, 4, 5, 6, 12], []), ([3, 4, 5, 6, 11], [])], []⟩
def ir_undertowlaw22_PpoAheadl0 : C :=
 .seq (.seq (.reg [⟨.mv (.s 6), none⟩,
   ⟨.mv (.s 5), none⟩,
   ⟨.len 1 (.r 1), none⟩,
   ⟨.bin .lss (.r 0) (.r 2), none⟩] [] [] [(11, 3, none)])
 (.cond (.s 11) (.skip)
  (.exit 0)))
 (.seq (.block 1 (.seq (.seq (.reg [⟨.mv (.s 3), none⟩,
    ⟨.mv (.s 5), none⟩,
    ⟨.mv (.s 6), none⟩,
    ⟨.iaS 2 (.r 1) (.r 2), none⟩,
    ⟨.iaA 2 1 (.r 3) (.c (.int .i64 0)), none⟩,
    ⟨.load 0 false 1 (.r 4), none⟩,
    ⟨.iaS 33 (.r 0) (.r 5), none⟩,
    ⟨.load 0 true 33 (.r 6), none⟩,
    ⟨.mv (.s 3), none⟩,
    ⟨.mv (.s 5), none⟩,
    ⟨.mv (.s 6), none⟩,
    ⟨.iaS 2 (.r 9) (.r 10), none⟩,
    ⟨.iaA 2 1 (.r 11) (.c (.int .i64 1)), none⟩,
    ⟨.load 0 false 1 (.r 12), none⟩,
    ⟨.iaS 33 (.r 8) (.r 13), none⟩,
    ⟨.load 0 true 33 (.r 14), none⟩,
    ⟨.lalloc 1 [.int .i64 0, .int .i64 0, .int .u64 0, .int .i64 0, .int .i64 0, .int .i64 0, .int .i64 0, .int .i64 0, .bool false, .bool false, .int .i64 0, .int .i64 0, .int .i64 0, .int .u64 0, .int .u64 0, .int .u64 0, .int .u64 0, .bool false, .int .i64 0, .flt 0, .int .i64 0, .int .i64 0, .int .i64 0, .int .i64 0, .int .i64 0, .int .i64 0, .int .i64 0, .int .i64 0, .int .i64 0, .bool false, .bool false, .int .i64 0, .int .i64 0], none⟩,
    ⟨.lalloc 2 [.int .i64 0, .int .i64 0, .int .u64 0, .int .i64 0, .int .i64 0, .int .i64 0, .int .i64 0, .int .i64 0, .bool false, .bool false, .int .i64 0, .int .i64 0, .int .i64 0, .int .u64 0, .int .u64 0, .int .u64 0, .int .u64 0, .bool false, .int .i64 0, .flt 0, .int .i64 0, .int .i64 0, .int .i64 0, .int .i64 0, .int .i64 0, .int .i64 0, .int .i64 0, .int .i64 0, .int .i64 0, .bool false, .bool false, .int .i64 0, .int .i64 0], none⟩,
    ⟨.store 0 33 (.r 16) (.r 7), none⟩,
    ⟨.store 0 33 (.r 17) (.r 15), none⟩] [(true, 1), (true, 2)] [(3, 11), (3, 13), (3, 14), (3, 15), (3, 16), (3, 17), (5, 11), (5, 13), (5, 14), (5, 15), (5, 16), (5, 17), (6, 11), (6, 13), (6, 14), (6, 15), (6, 16), (6, 17), (7, 11), (7, 13), (7, 14), (7, 15), (7, 16), (7, 17), (11, 16), (11, 17), (11, 18), (13, 16), (13, 17), (13, 18), (14, 16), (14, 17), (14, 18), (15, 16), (15, 17), (15, 18), (16, 17)] [(7, 16, some 3), (8, 17, some 5)])
  (.drop [11] []))
  (.seq (.seq (.reg [⟨.off 0 (.s 7), none⟩,
    ⟨.load 0 false 1 (.r 0), none⟩,
    ⟨.off 0 (.s 8), none⟩,
    ⟨.load 0 false 1 (.r 2), none⟩,
    ⟨.bin .neq (.r 1) (.r 3), none⟩,
    ⟨.mv (.r 4), none⟩,
    ⟨.off 1 (.s 7), some (5, false)⟩,
    ⟨.load 0 false 1 (.r 6), some (5, false)⟩,
    ⟨.off 1 (.s 8), some (5, false)⟩,
    ⟨.load 0 false 1 (.r 8), some (5, false)⟩,
    ⟨.bin .geq (.r 7) (.r 9), some (5, false)⟩,
    ⟨.pick (.r 5) (.c (.bool true)) (.r 10), none⟩] [] [] [(12, 11, none)])
  (.drop [7, 8] [(true, 1), (true, 2)]))
  (.cond (.s 12) (.seq (.seq (.reg [⟨.mv (.c (.bool false)), none⟩] [] [] [(2, 0, none)])
   (.drop [3, 4, 5, 6, 12] []))
   (.ret))
   (.skip)))))
 (.seq (.reg [⟨.mv (.s 6), none⟩,
   ⟨.bin .add (.r 0) (.c (.int .i64 1)), none⟩,
   ⟨.mv (.r 1), none⟩] [] [] [(6, 2, none)])
 (.drop [12] [])))
def ir_undertowlaw22_PpoAhead : Vm.Fn := ⟨[0, 1, 2, 3, 4, 5, 6, 7, 8, 10, 12, 23, 53], 3, 0, [.slot 2],
 .seq (.seq (.reg [⟨.lbox 0 5 (.s 0), none⟩,
   ⟨.mv (.c (.bool false)), none⟩] [(true, 0)] [] [(1, 0, some 1), (2, 1, none)])
 (.drop [0, 2] []))
 (.seq (.seq (.reg [⟨.call .val n_undertowlaw22_alive [], none⟩,
   ⟨.un .not (.r 0), none⟩] [] [] [(9, 1, none)])
 (.cond (.s 9) (.seq (.seq (.reg [⟨.mv (.c (.bool false)), none⟩] [] [] [(2, 0, none)])
  (.drop [1, 9] [(true, 0)]))
  (.ret))
  (.skip)))
 (.seq (.seq (.seq (.reg [⟨.load 0 true 5 (.s 1), none⟩,
   ⟨.call .val n_undertowref20_Great [(.r 0)], none⟩] [] [] [(10, 1, none)])
 (.drop [9] []))
 (.cond (.s 10) (.seq (.seq (.reg [⟨.call .val n_undertowlaw22_alive [], none⟩,
    ⟨.mv (.r 0), none⟩] [] [] [(2, 1, none)])
  (.drop [1, 10] [(true, 0)]))
  (.ret))
  (.skip)))
 (.seq (.seq (.reg [⟨.load 0 true 5 (.s 1), none⟩,
   ⟨.call .val n_cand_Events [(.r 0)], none⟩,
   ⟨.mv (.r 1), none⟩] [] [] [(3, 2, none)])
 (.drop [10] []))
 (.seq (.seq (.reg [⟨.load 0 true 5 (.s 1), none⟩,
   ⟨.call .val n_ppo_All [(.r 0)], none⟩,
   ⟨.mv (.r 1), none⟩] [] [] [(4, 2, none)])
 (.drop [1] [(true, 0)]))
 (.seq (.reg [⟨.mv (.s 4), none⟩,
   ⟨.call .val n_rel_Rel_Pairs [(.r 0)], none⟩,
   ⟨.mv (.r 1), none⟩] [] [] [(5, 2, none)])
 (.seq (.seq (.reg [⟨.mv (.c (.int .i64 0)), none⟩] [] [] [(6, 0, none)])
 (.block 0 (.loop ir_undertowlaw22_PpoAheadl0)))
 (.seq (.seq (.reg [⟨.call .val n_undertowlaw22_alive [], none⟩,
   ⟨.mv (.r 0), none⟩,
   ⟨.mv (.s 4), some (1, true)⟩,
   ⟨.call .val n_rel_Rel_Len [(.r 2)], some (1, true)⟩,
   ⟨.mv (.s 3), some (1, true)⟩,
   ⟨.len 1 (.r 4), some (1, true)⟩,
   ⟨.bin .eql (.r 3) (.r 5), some (1, true)⟩,
   ⟨.pick (.r 1) (.r 6) (.c (.bool false)), none⟩,
   ⟨.mv (.r 7), none⟩] [] [] [(2, 8, none)])
 (.drop [3, 4, 5, 6, 11] []))
 (.ret))))))))⟩
/-- 4: undertow/undertowlaw22.PpoMore -/
def h4 : Vm.Hint := ⟨[0, 1, 2, 3, 4, 5, 6, 7, 14, 15, 16, 17, 18, 19, 20, 21, 22, 24, 39, 97, 112], [7, 16, 18], [], [[1, 0], [0, 0], [0], [0, 0, 0, 0], [0, 0, 0, 0, 0, 0, 0, 0, 0, 0, 0, 0], [0, 0], [0, 2, 0], [0], [0, 0, 0, 0, 0, 0, 0], [0, 0, 0, 0, 0], [0, 0, 0, 0, 0, 0, 3, 0], [0, 0, 0, 0, 0, 0, 0], [0, 0, 0, 0, 0, 0, 0], [0, 0, 0, 0, 0, 0, 0], [0, 0, 0, 0, 0, 0, 0], [0, 0, 0, 0, 0, 0, 0], [0, 0, 0, 0, 0, 0], [0, 0, 0], [0], [0, 0, 0, 0], [0, 0, 0], [0, 0, 0, 0, 0, 0, 0, 0, 0, 0, 0, 0, 0], [0], [0, 0, 0, 0, 0, 0, 0, 0, 0]], [([0, 8], []), ([], []), ([1, 2, 3, 4, 5, 6, 7, 17], [(true, 0)]), ([1, 17], []), ([], []), ([2, 3, 4, 5, 6, 7, 9, 18], [(true, 0)]), ([18], []), ([], []), ([], []), ([9], []), ([], []), ([3], []), ([4], []), ([5], []), ([6], []), ([2, 11, 12], [(true, 2)]), ([7, 10], [(true, 0), (true, 1)]), ([], []), ([], []), ([], []), ([20], []), ([19], []), ([13, 14, 15, 16, 20], []), ([13, 14, 15, 16, 19], [])], []⟩
def ir_undertowlaw22_PpoMorel0 : C :=
 .seq (.seq (.reg [⟨.mv (.s 16), none⟩,
   ⟨.mv (.s 15), none⟩,
   ⟨.len 1 (.r 1), none⟩,
   ⟨.bin .lss (.r 0) (.r 2), none⟩] [] [] [(19, 3, none)])
 (.cond (.s 19) (.skip)
  (.exit 0)))
 (.seq (.block 1 (.seq (.seq (.reg [⟨.mv (.s 14), none⟩,
    ⟨.mv (.s 15), none⟩,
    ⟨.mv (.s 16), none⟩,
    ⟨.iaS 2 (.r 1) (.r 2), none⟩,
    ⟨.iaA 2 1 (.r 3) (.c (.int .i64 0)), none⟩,
    ⟨.load 0 false 1 (.r 4), none⟩,
    ⟨.mv (.s 15), none⟩,
    ⟨.mv (.s 16), none⟩,
    ⟨.iaS 2 (.r 6) (.r 7), none⟩,
    ⟨.iaA 2 1 (.r 8) (.c (.int .i64 1)), none⟩,
    ⟨.load 0 false 1 (.r 9), none⟩,
    ⟨.call .val n_rel_Rel_Has [(.r 0), (.r 5), (.r 10)], none⟩,
    ⟨.un .not (.r 11), none⟩] [] [(3, 8), (3, 10), (5, 8), (5, 10)] [(20, 12, none)])
  (.drop [19] []))
  (.cond (.s 20) (.seq (.seq (.reg [⟨.mv (.c (.bool false)), none⟩] [] [] [(8, 0, none)])
   (.drop [13, 14, 15, 16, 20] []))
   (.ret))
   (.skip))))
 (.seq (.reg [⟨.mv (.s 16), none⟩,
   ⟨.bin .add (.r 0) (.c (.int .i64 1)), none⟩,
   ⟨.mv (.r 1), none⟩] [] [] [(16, 2, none)])
 (.drop [20] [])))
def ir_undertowlaw22_PpoMore : Vm.Fn := ⟨[0, 1, 2, 3, 4, 5, 6, 7, 14, 15, 16, 17, 18, 19, 20, 21, 22, 24, 39, 97, 112], 3, 0, [.slot 8],
 .seq (.seq (.reg [⟨.lbox 0 5 (.s 0), none⟩,
   ⟨.mv (.c (.bool false)), none⟩] [(true, 0)] [] [(7, 0, some 1), (8, 1, none)])
 (.drop [0, 8] []))
 (.seq (.seq (.reg [⟨.call .val n_undertowlaw22_alive [], none⟩,
   ⟨.un .not (.r 0), none⟩] [] [] [(17, 1, none)])
 (.cond (.s 17) (.seq (.seq (.reg [⟨.mv (.c (.bool false)), none⟩] [] [] [(8, 0, none)])
  (.drop [1, 2, 3, 4, 5, 6, 7, 17] [(true, 0)]))
  (.ret))
  (.skip)))
 (.seq (.seq (.reg [⟨.mv (.s 1), none⟩,
   ⟨.bin .rem (.r 0) (.c (.int .u8 3)), none⟩,
   ⟨.i2i .i64 (.r 1), none⟩,
   ⟨.mv (.r 2), none⟩] [] [] [(9, 3, none)])
 (.drop [1, 17] []))
 (.seq (.seq (.reg [⟨.load 0 true 5 (.s 7), none⟩,
   ⟨.call .val n_undertowref20_Great [(.r 0)], none⟩,
   ⟨.mv (.r 1), none⟩,
   ⟨.mv (.s 2), some (2, false)⟩,
   ⟨.i2i .i64 (.r 3), some (2, false)⟩,
   ⟨.mv (.s 9), some (2, false)⟩,
   ⟨.off 1 (.s 7), some (2, false)⟩,
   ⟨.iaA 3 1 (.r 6) (.r 5), some (2, false)⟩,
   ⟨.load 0 false 1 (.r 7), some (2, false)⟩,
   ⟨.len 1 (.r 8), some (2, false)⟩,
   ⟨.bin .geq (.r 4) (.r 9), some (2, false)⟩,
   ⟨.pick (.r 2) (.c (.bool true)) (.r 10), none⟩] [] [] [(18, 11, none)])
 (.cond (.s 18) (.seq (.seq (.reg [⟨.call .val n_undertowlaw22_alive [], none⟩,
    ⟨.mv (.r 0), none⟩] [] [] [(8, 1, none)])
  (.drop [2, 3, 4, 5, 6, 7, 9, 18] [(true, 0)]))
  (.ret))
  (.skip)))
 (.seq (.seq (.reg [⟨.load 0 true 5 (.s 7), none⟩,
   ⟨.lalloc 1 [.nils, .nils, .nils, .nils, .nils], none⟩,
   ⟨.store 0 5 (.r 1) (.r 0), none⟩] [(true, 1)] [] [(10, 1, some 3)])
 (.drop [18] []))
 (.seq (.reg [⟨.mv (.c (.nils)), none⟩] [] [] [(11, 0, none)])
 (.seq (.reg [⟨.mv (.s 11), none⟩,
   ⟨.mv (.s 9), none⟩,
   ⟨.off 1 (.s 7), none⟩,
   ⟨.iaA 3 1 (.r 2) (.r 1), none⟩,
   ⟨.load 0 false 1 (.r 3), none⟩,
   ⟨.app 0 27 208 (.r 0) (.r 4), none⟩,
   ⟨.mv (.r 5), none⟩] [] [] [(11, 6, none)])
 (.seq (.seq (.reg [⟨.mv (.s 9), none⟩,
   ⟨.mv (.s 11), none⟩,
   ⟨.off 1 (.s 10), none⟩,
   ⟨.iaA 3 1 (.r 2) (.r 0), none⟩,
   ⟨.store 0 1 (.r 3) (.r 1), none⟩] [] [] [])
 (.drop [9] []))
 (.seq (.reg [⟨.mv (.s 11), none⟩,
   ⟨.mv (.s 2), none⟩,
   ⟨.iaS 27 (.r 0) (.r 1), none⟩,
   ⟨.off 0 (.r 2), none⟩,
   ⟨.off 1 (.r 3), none⟩,
   ⟨.load 0 true 9 (.r 4), none⟩,
   ⟨.lalloc 2 [.int .i64 0, .int .i64 0, .int .i64 0, .int .i64 0, .int .i64 0, .bool false, .bool false, .int .i64 0, .int .i64 0], none⟩,
   ⟨.store 0 9 (.r 6) (.r 5), none⟩] [(true, 2)] [] [(12, 6, some 5)])
 (.seq (.seq (.reg [⟨.off 5 (.s 12), none⟩,
   ⟨.load 0 false 1 (.r 0), none⟩,
   ⟨.mv (.r 1), none⟩,
   ⟨.mv (.s 3), some (2, false)⟩,
   ⟨.pick (.r 2) (.c (.bool true)) (.r 3), none⟩,
   ⟨.off 5 (.s 12), none⟩,
   ⟨.store 0 1 (.r 5) (.r 4), none⟩] [] [] [])
 (.drop [3] []))
 (.seq (.seq (.reg [⟨.off 6 (.s 12), none⟩,
   ⟨.load 0 false 1 (.r 0), none⟩,
   ⟨.mv (.r 1), none⟩,
   ⟨.mv (.s 4), some (2, false)⟩,
   ⟨.pick (.r 2) (.c (.bool true)) (.r 3), none⟩,
   ⟨.off 6 (.s 12), none⟩,
   ⟨.store 0 1 (.r 5) (.r 4), none⟩] [] [] [])
 (.drop [4] []))
 (.seq (.seq (.reg [⟨.off 7 (.s 12), none⟩,
   ⟨.load 0 false 1 (.r 0), none⟩,
   ⟨.mv (.s 5), none⟩,
   ⟨.bin .and (.r 2) (.c (.int .i64 3)), none⟩,
   ⟨.bin .or (.r 1) (.r 3), none⟩,
   ⟨.off 7 (.s 12), none⟩,
   ⟨.store 0 1 (.r 5) (.r 4), none⟩] [] [] [])
 (.drop [5] []))
 (.seq (.seq (.reg [⟨.off 8 (.s 12), none⟩,
   ⟨.load 0 false 1 (.r 0), none⟩,
   ⟨.mv (.s 6), none⟩,
   ⟨.bin .and (.r 2) (.c (.int .i64 3)), none⟩,
   ⟨.bin .or (.r 1) (.r 3), none⟩,
   ⟨.off 8 (.s 12), none⟩,
   ⟨.store 0 1 (.r 5) (.r 4), none⟩] [] [] [])
 (.drop [6] []))
 (.seq (.seq (.reg [⟨.mv (.s 11), none⟩,
   ⟨.mv (.s 2), none⟩,
   ⟨.load 0 true 9 (.s 12), none⟩,
   ⟨.iaS 27 (.r 0) (.r 1), none⟩,
   ⟨.off 0 (.r 3), none⟩,
   ⟨.off 1 (.r 4), none⟩,
   ⟨.store 0 9 (.r 5) (.r 2), none⟩] [] [] [])
 (.drop [2, 11, 12] [(true, 2)]))
 (.seq (.seq (.reg [⟨.load 0 true 5 (.s 7), none⟩,
   ⟨.call .val n_ppo_All [(.r 0)], none⟩,
   ⟨.load 0 true 5 (.s 10), none⟩,
   ⟨.call .val n_ppo_All [(.r 2)], none⟩,
   ⟨.mv (.r 1), none⟩,
   ⟨.mv (.r 3), none⟩] [] [(0, 2), (1, 2)] [(13, 4, none), (14, 5, none)])
 (.drop [7, 10] [(true, 0), (true, 1)]))
 (.seq (.reg [⟨.mv (.s 13), none⟩,
   ⟨.call .val n_rel_Rel_Pairs [(.r 0)], none⟩,
   ⟨.mv (.r 1), none⟩] [] [] [(15, 2, none)])
 (.seq (.seq (.reg [⟨.mv (.c (.int .i64 0)), none⟩] [] [] [(16, 0, none)])
 (.block 0 (.loop ir_undertowlaw22_PpoMorel0)))
 (.seq (.seq (.reg [⟨.call .val n_undertowlaw22_alive [], none⟩,
   ⟨.mv (.r 0), none⟩,
   ⟨.mv (.s 13), some (1, true)⟩,
   ⟨.call .val n_rel_Rel_Len [(.r 2)], some (1, true)⟩,
   ⟨.mv (.s 14), some (1, true)⟩,
   ⟨.call .val n_rel_Rel_Len [(.r 4)], some (1, true)⟩,
   ⟨.bin .eql (.r 3) (.r 5), some (1, true)⟩,
   ⟨.pick (.r 1) (.r 6) (.c (.bool false)), none⟩,
   ⟨.mv (.r 7), none⟩] [] [] [(8, 8, none)])
 (.drop [13, 14, 15, 16, 19] []))
 (.ret))))))))))))))))))⟩
/-- 5: undertow/undertowlaw22.PpoFree -/
def h5 : Vm.Hint := ⟨[0, 1, 2, 6, 7, 8, 9, 10, 11, 12, 13, 14, 15, 16, 17, 18, 19, 20, 22, 42, 81, 85, 107, 138, 142, 150, 184], [7, 14, 15], [], [[0], [0, 0], [0], [1, 0, 0, 1, 0], [0, 0, 0, 0], [0], [0, 0, 0, 0, 0, 0, 0, 0, 0, 0, 0, 0, 0, 0], [0, 0, 0], [0, 0, 0, 0, 0, 0, 0, 0], [0, 0, 0, 0, 0, 0, 0, 0, 0, 0, 0, 0, 0, 1, 2, 0, 0, 0], [0, 0, 0], [0, 0, 0, 0], [0, 0, 0, 0, 0, 0, 0, 0], [0], [0], [0, 0, 0, 0], [0, 0, 0], [0, 0, 0, 0, 0, 0, 0, 0, 0, 0, 0, 0, 0, 0, 0, 0, 2, 3, 0, 0], [0], [0], [0, 0, 0, 0], [0, 0, 0], [0, 0, 0, 0, 0, 0, 0, 0, 0, 0, 0, 0, 0, 0, 0, 0, 0, 0, 0, 0, 0, 0, 0], [0, 0, 0, 0, 0, 0, 0], [0], [0], [0, 0, 0, 0], [0, 0, 0], [0, 0, 0], [0, 0, 0, 0], [0, 0, 0], [0, 0, 0, 0, 0, 0, 0, 0, 0, 0, 0], [0, 0, 0, 0, 0, 0, 0, 0, 0, 0, 0, 0, 0, 0, 0, 0, 0, 0, 0, 0, 0, 0], [0], [0, 0]], [([3], []), ([], []), ([0, 1, 2, 18], []), ([18], []), ([0], []), ([], []), ([], []), ([], []), ([19], []), ([7], []), ([1, 2, 6, 19], []), ([], []), ([5], []), ([4, 8, 9, 20], [(true, 0)]), ([20], []), ([], []), ([23], []), ([21], []), ([], []), ([], []), ([], []), ([], []), ([22], []), ([11, 12, 13, 14, 22], [(true, 1), (true, 2)]), ([4, 8, 9, 10, 23], [(true, 0)]), ([9, 10, 21], []), ([], []), ([16, 25], []), ([24], []), ([], []), ([26], []), ([25], []), ([17], []), ([4, 8, 15, 16, 26], [(true, 0)]), ([4, 8, 15, 24], [(true, 0)])], []⟩
def ir_undertowlaw22_PpoFreel0 : C :=
 .seq (.seq (.reg [⟨.mv (.s 6), none⟩,
   ⟨.mv (.s 1), none⟩,
   ⟨.len 1 (.r 1), none⟩,
   ⟨.bin .lss (.r 0) (.r 2), none⟩,
   ⟨.mv (.r 3), none⟩,
   ⟨.mv (.s 6), some (4, true)⟩,
   ⟨.mv (.s 2), some (4, true)⟩,
   ⟨.len 1 (.r 6), some (4, true)⟩,
   ⟨.bin .lss (.r 5) (.r 7), some (4, true)⟩,
   ⟨.pick (.r 4) (.r 8) (.c (.bool false)), none⟩,
   ⟨.mv (.r 9), none⟩,
   ⟨.mv (.s 6), some (10, true)⟩,
   ⟨.bin .lss (.r 11) (.c (.int .i64 20)), some (10, true)⟩,
   ⟨.pick (.r 10) (.r 12) (.c (.bool false)), none⟩] [] [] [(19, 13, none)])
 (.cond (.s 19) (.skip)
  (.exit 0)))
 (.seq (.block 1 (.seq (.seq (.reg [⟨.mv (.s 1), none⟩,
    ⟨.mv (.s 6), none⟩,
    ⟨.iaS 1 (.r 0) (.r 1), none⟩,
    ⟨.load 0 false 1 (.r 2), none⟩,
    ⟨.i2i .i64 (.r 3), none⟩,
    ⟨.bin .rem (.r 4) (.c (.int .i64 11)), none⟩,
    ⟨.bin .add (.c (.int .i64 11)) (.r 5), none⟩,
    ⟨.mv (.r 6), none⟩] [] [] [(7, 7, none)])
  (.drop [19] []))
  (.seq (.reg [⟨.mv (.s 5), none⟩,
    ⟨.mv (.s 5), none⟩,
    ⟨.off 1 (.s 4), none⟩,
    ⟨.iaA 3 1 (.r 2) (.r 1), none⟩,
    ⟨.load 0 false 1 (.r 3), none⟩,
    ⟨.mv (.s 7), none⟩,
    ⟨.mv (.s 6), none⟩,
    ⟨.mv (.s 2), none⟩,
    ⟨.mv (.s 6), none⟩,
    ⟨.iaS 1 (.r 7) (.r 8), none⟩,
    ⟨.load 0 false 1 (.r 9), none⟩,
    ⟨.i2i .u64 (.r 10), none⟩,
    ⟨.call .val n_undertowlaw22_one [(.r 5), (.r 6), (.r 11)], none⟩,
    ⟨.lit 1 27 [[.int .u64 0, .int .i64 0, .int .i64 0, .int .i64 0, .int .i64 0, .int .i64 0, .bool false, .bool false, .int .i64 0, .int .i64 0, .int .i64 0, .int .u64 0, .int .u64 0, .int .u64 0, .int .u64 0, .bool false, .int .i64 0, .flt 0, .int .i64 0, .int .i64 0, .int .i64 0, .int .i64 0, .int .i64 0, .int .i64 0, .int .i64 0, .int .i64 0, .int .i64 0]] [(0, (.r 12))], none⟩,
    ⟨.app 2 27 208 (.r 4) (.r 13), none⟩,
    ⟨.off 1 (.s 4), none⟩,
    ⟨.iaA 3 1 (.r 15) (.r 0), none⟩,
    ⟨.store 0 1 (.r 16) (.r 14), none⟩] [] [(4, 9), (4, 10), (4, 12)] [])
  (.drop [7] []))))
 (.reg [⟨.mv (.s 6), none⟩,
   ⟨.bin .add (.r 0) (.c (.int .i64 1)), none⟩,
   ⟨.mv (.r 1), none⟩] [] [] [(6, 2, none)]))
def ir_undertowlaw22_PpoFreel1 : C :=
 .seq (.seq (.reg [⟨.mv (.s 14), none⟩,
   ⟨.off 32 (.s 11), none⟩,
   ⟨.load 0 false 1 (.r 1), none⟩,
   ⟨.bin .lss (.r 0) (.r 2), none⟩] [] [] [(22, 3, none)])
 (.cond (.s 22) (.skip)
  (.exit 4)))
 (.seq (.block 5 (.seq (.reg [⟨.mv (.s 13), none⟩,
    ⟨.mv (.r 0), none⟩,
    ⟨.off 31 (.s 11), some (1, false)⟩,
    ⟨.load 0 false 1 (.r 2), some (1, false)⟩,
    ⟨.mv (.s 14), some (1, false)⟩,
    ⟨.bin .add (.r 3) (.r 4), some (1, false)⟩,
    ⟨.off 31 (.s 12), some (1, false)⟩,
    ⟨.load 0 false 1 (.r 6), some (1, false)⟩,
    ⟨.bin .geq (.r 5) (.r 7), some (1, false)⟩,
    ⟨.mv (.r 8), some (1, false)⟩,
    ⟨.off 31 (.s 11), some (9, true)⟩,
    ⟨.load 0 false 1 (.r 10), some (9, true)⟩,
    ⟨.mv (.s 14), some (9, true)⟩,
    ⟨.bin .add (.r 11) (.r 12), some (9, true)⟩,
    ⟨.off 31 (.s 12), some (9, true)⟩,
    ⟨.load 0 false 1 (.r 14), some (9, true)⟩,
    ⟨.off 32 (.s 12), some (9, true)⟩,
    ⟨.load 0 false 1 (.r 16), some (9, true)⟩,
    ⟨.bin .add (.r 15) (.r 17), some (9, true)⟩,
    ⟨.bin .lss (.r 13) (.r 18), some (9, true)⟩,
    ⟨.pick (.r 9) (.r 19) (.c (.bool false)), some (1, false)⟩,
    ⟨.pick (.r 1) (.c (.bool true)) (.r 20), none⟩,
    ⟨.mv (.r 21), none⟩] [] [] [(13, 22, none)])
  (.drop [22] [])))
 (.reg [⟨.mv (.s 14), none⟩,
   ⟨.bin .add (.r 0) (.c (.int .i64 1)), none⟩,
   ⟨.mv (.r 1), none⟩] [] [] [(14, 2, none)]))
def ir_undertowlaw22_PpoFreel2 : C :=
 .seq (.seq (.reg [⟨.mv (.s 10), none⟩,
   ⟨.mv (.s 9), none⟩,
   ⟨.len 1 (.r 1), none⟩,
   ⟨.bin .lss (.r 0) (.r 2), none⟩] [] [] [(21, 3, none)])
 (.cond (.s 21) (.skip)
  (.exit 2)))
 (.seq (.block 3 (.seq (.seq (.reg [⟨.mv (.s 8), none⟩,
    ⟨.mv (.s 9), none⟩,
    ⟨.mv (.s 10), none⟩,
    ⟨.iaS 2 (.r 1) (.r 2), none⟩,
    ⟨.iaA 2 1 (.r 3) (.c (.int .i64 0)), none⟩,
    ⟨.load 0 false 1 (.r 4), none⟩,
    ⟨.iaS 33 (.r 0) (.r 5), none⟩,
    ⟨.load 0 true 33 (.r 6), none⟩,
    ⟨.mv (.s 8), none⟩,
    ⟨.mv (.s 9), none⟩,
    ⟨.mv (.s 10), none⟩,
    ⟨.iaS 2 (.r 9) (.r 10), none⟩,
    ⟨.iaA 2 1 (.r 11) (.c (.int .i64 1)), none⟩,
    ⟨.load 0 false 1 (.r 12), none⟩,
    ⟨.iaS 33 (.r 8) (.r 13), none⟩,
    ⟨.load 0 true 33 (.r 14), none⟩,
    ⟨.lalloc 1 [.int .i64 0, .int .i64 0, .int .u64 0, .int .i64 0, .int .i64 0, .int .i64 0, .int .i64 0, .int .i64 0, .bool false, .bool false, .int .i64 0, .int .i64 0, .int .i64 0, .int .u64 0, .int .u64 0, .int .u64 0, .int .u64 0, .bool false, .int .i64 0, .flt 0, .int .i64 0, .int .i64 0, .int .i64 0, .int .i64 0, .int .i64 0, .int .i64 0, .int .i64 0, .int .i64 0, .int .i64 0, .bool false, .bool false, .int .i64 0, .int .i64 0], none⟩,
    ⟨.lalloc 2 [.int .i64 0, .int .i64 0, .int .u64 0, .int .i64 0, .int .i64 0, .int .i64 0, .int .i64 0, .int .i64 0, .bool false, .bool false, .int .i64 0, .int .i64 0, .int .i64 0, .int .u64 0, .int .u64 0, .int .u64 0, .int .u64 0, .bool false, .int .i64 0, .flt 0, .int .i64 0, .int .i64 0, .int .i64 0, .int .i64 0, .int .i64 0, .int .i64 0, .int .i64 0, .int .i64 0, .int .i64 0, .bool false, .bool false, .int .i64 0, .int .i64 0], none⟩,
    ⟨.store 0 33 (.r 16) (.r 7), none⟩,
    ⟨.store 0 33 (.r 17) (.r 15), none⟩] [(true, 1), (true, 2)] [(3, 11), (3, 13), (3, 14), (3, 15), (3, 16), (3, 17), (5, 11), (5, 13), (5, 14), (5, 15), (5, 16), (5, 17), (6, 11), (6, 13), (6, 14), (6, 15), (6, 16), (6, 17), (7, 11), (7, 13), (7, 14), (7, 15), (7, 16), (7, 17), (11, 16), (11, 17), (11, 18), (13, 16), (13, 17), (13, 18), (14, 16), (14, 17), (14, 18), (15, 16), (15, 17), (15, 18), (16, 17)] [(11, 16, some 3), (12, 17, some 5)])
  (.drop [21] []))
  (.seq (.reg [⟨.mv (.c (.bool false)), none⟩] [] [] [(13, 0, none)])
  (.seq (.seq (.reg [⟨.mv (.c (.int .i64 0)), none⟩] [] [] [(14, 0, none)])
  (.block 4 (.loop ir_undertowlaw22_PpoFreel1)))
  (.seq (.seq (.reg [⟨.mv (.s 13), none⟩,
    ⟨.un .not (.r 0), none⟩,
    ⟨.mv (.r 1), none⟩,
    ⟨.off 30 (.s 12), some (2, false)⟩,
    ⟨.load 0 false 1 (.r 3), some (2, false)⟩,
    ⟨.un .not (.r 4), some (2, false)⟩,
    ⟨.pick (.r 2) (.c (.bool true)) (.r 5), none⟩] [] [] [(23, 6, none)])
  (.drop [11, 12, 13, 14, 22] [(true, 1), (true, 2)]))
  (.cond (.s 23) (.seq (.seq (.reg [⟨.mv (.c (.bool false)), none⟩] [] [] [(3, 0, none)])
   (.drop [4, 8, 9, 10, 23] [(true, 0)]))
   (.ret))
   (.skip)))))))
 (.seq (.reg [⟨.mv (.s 10), none⟩,
   ⟨.bin .add (.r 0) (.c (.int .i64 1)), none⟩,
   ⟨.mv (.r 1), none⟩] [] [] [(10, 2, none)])
 (.drop [23] [])))
def ir_undertowlaw22_PpoFreel3 : C :=
 .seq (.seq (.reg [⟨.mv (.s 16), none⟩,
   ⟨.mv (.s 8), none⟩,
   ⟨.len 1 (.r 1), none⟩,
   ⟨.bin .lss (.r 0) (.r 2), none⟩] [] [] [(25, 3, none)])
 (.cond (.s 25) (.skip)
  (.exit 8)))
 (.seq (.block 9 (.seq (.seq (.reg [⟨.mv (.s 8), none⟩,
    ⟨.mv (.s 16), none⟩,
    ⟨.iaS 33 (.r 0) (.r 1), none⟩,
    ⟨.off 2 (.r 2), none⟩,
    ⟨.off 0 (.r 3), none⟩,
    ⟨.off 1 (.r 4), none⟩,
    ⟨.off 0 (.r 5), none⟩,
    ⟨.load 0 false 1 (.r 6), none⟩,
    ⟨.call .val n_undertowref05_Sort [(.r 7)], none⟩,
    ⟨.bin .eql (.r 8) (.c (.int .i64 5)), none⟩,
    ⟨.mv (.r 9), none⟩] [] [] [(17, 10, none)])
  (.drop [25] []))
  (.seq (.seq (.reg [⟨.mv (.s 17), none⟩,
    ⟨.mv (.r 0), none⟩,
    ⟨.mv (.s 8), some (1, true)⟩,
    ⟨.mv (.s 15), some (1, true)⟩,
    ⟨.iaS 33 (.r 2) (.r 3), some (1, true)⟩,
    ⟨.off 31 (.r 4), some (1, true)⟩,
    ⟨.load 0 false 1 (.r 5), some (1, true)⟩,
    ⟨.mv (.s 8), some (1, true)⟩,
    ⟨.mv (.s 16), some (1, true)⟩,
    ⟨.iaS 33 (.r 7) (.r 8), some (1, true)⟩,
    ⟨.off 31 (.r 9), some (1, true)⟩,
    ⟨.load 0 false 1 (.r 10), some (1, true)⟩,
    ⟨.bin .eql (.r 6) (.r 11), some (1, true)⟩,
    ⟨.pick (.r 1) (.r 12) (.c (.bool false)), none⟩,
    ⟨.mv (.r 13), none⟩,
    ⟨.load 0 true 5 (.s 4), some (14, true)⟩,
    ⟨.call .val n_ppo_All [(.r 15)], some (14, true)⟩,
    ⟨.mv (.s 15), some (14, true)⟩,
    ⟨.mv (.s 16), some (14, true)⟩,
    ⟨.call .val n_rel_Rel_Has [(.r 16), (.r 17), (.r 18)], some (14, true)⟩,
    ⟨.un .not (.r 19), some (14, true)⟩,
    ⟨.pick (.r 14) (.r 20) (.c (.bool false)), none⟩] [] [(4, 9), (4, 11), (6, 9), (6, 11)] [(26, 21, none)])
  (.drop [17] []))
  (.cond (.s 26) (.seq (.seq (.reg [⟨.mv (.c (.bool false)), none⟩] [] [] [(3, 0, none)])
   (.drop [4, 8, 15, 16, 26] [(true, 0)]))
   (.ret))
   (.skip)))))
 (.seq (.reg [⟨.mv (.s 16), none⟩,
   ⟨.bin .add (.r 0) (.c (.int .i64 1)), none⟩,
   ⟨.mv (.r 1), none⟩] [] [] [(16, 2, none)])
 (.drop [26] [])))
def ir_undertowlaw22_PpoFreel4 : C :=
 .seq (.seq (.reg [⟨.mv (.s 15), none⟩,
   ⟨.mv (.s 8), none⟩,
   ⟨.len 1 (.r 1), none⟩,
   ⟨.bin .lss (.r 0) (.r 2), none⟩] [] [] [(24, 3, none)])
 (.cond (.s 24) (.skip)
  (.exit 6)))
 (.seq (.block 7 (.seq (.seq (.reg [⟨.mv (.s 15), none⟩,
    ⟨.bin .add (.r 0) (.c (.int .i64 1)), none⟩,
    ⟨.mv (.r 1), none⟩] [] [] [(16, 2, none)])
  (.drop [24] []))
  (.block 8 (.loop ir_undertowlaw22_PpoFreel3))))
 (.seq (.reg [⟨.mv (.s 15), none⟩,
   ⟨.bin .add (.r 0) (.c (.int .i64 1)), none⟩,
   ⟨.mv (.r 1), none⟩] [] [] [(15, 2, none)])
 (.drop [16, 25] [])))
def ir_undertowlaw22_PpoFree : Vm.Fn := ⟨[0, 1, 2, 6, 7, 8, 9, 10, 11, 12, 13, 14, 15, 16, 17, 18, 19, 20, 22, 42, 81, 85, 107, 138, 142, 150, 184], 3, 0, [.slot 3],
 .seq (.seq (.reg [⟨.mv (.c (.bool false)), none⟩] [] [] [(3, 0, none)])
 (.drop [3] []))
 (.seq (.seq (.reg [⟨.call .val n_undertowlaw22_alive [], none⟩,
   ⟨.un .not (.r 0), none⟩] [] [] [(18, 1, none)])
 (.cond (.s 18) (.seq (.seq (.reg [⟨.mv (.c (.bool false)), none⟩] [] [] [(3, 0, none)])
  (.drop [0, 1, 2, 18] []))
  (.ret))
  (.skip)))
 (.seq (.seq (.reg [⟨.mksv [.int .u8 0] 1 (.c (.int .i64 200)) (.c (.int .i64 200)), none⟩,
   ⟨.mksl [.nils] 24 (.c (.int .i64 200)) (.c (.int .i64 200)), none⟩,
   ⟨.build [.nils, .nils, .nils, .nils, .nils] [(0, 1, (.r 0)), (4, 1, (.r 1))], none⟩,
   ⟨.lalloc 0 [.nils, .nils, .nils, .nils, .nils], none⟩,
   ⟨.store 0 5 (.r 3) (.r 2), none⟩] [(true, 0)] [(1, 3)] [(4, 3, some 1)])
 (.drop [18] []))
 (.seq (.seq (.reg [⟨.mv (.s 0), none⟩,
   ⟨.bin .rem (.r 0) (.c (.int .u8 3)), none⟩,
   ⟨.i2i .i64 (.r 1), none⟩,
   ⟨.mv (.r 2), none⟩] [] [] [(5, 3, none)])
 (.drop [0] []))
 (.seq (.seq (.reg [⟨.mv (.c (.int .i64 0)), none⟩] [] [] [(6, 0, none)])
 (.block 0 (.loop ir_undertowlaw22_PpoFreel0)))
 (.seq (.seq (.reg [⟨.load 0 true 5 (.s 4), none⟩,
   ⟨.call .val n_cand_Events [(.r 0)], none⟩,
   ⟨.mv (.r 1), none⟩] [] [] [(8, 2, none)])
 (.drop [1, 2, 6, 19] []))
 (.seq (.reg [⟨.load 0 true 5 (.s 4), none⟩,
   ⟨.call .val n_ppo_All [(.r 0)], none⟩,
   ⟨.call .val n_rel_Rel_Pairs [(.r 1)], none⟩,
   ⟨.mv (.r 2), none⟩] [] [] [(9, 3, none)])
 (.seq (.seq (.seq (.reg [⟨.mv (.s 8), none⟩,
   ⟨.len 1 (.r 0), none⟩,
   ⟨.mv (.s 5), none⟩,
   ⟨.off 1 (.s 4), none⟩,
   ⟨.iaA 3 1 (.r 3) (.r 2), none⟩,
   ⟨.load 0 false 1 (.r 4), none⟩,
   ⟨.len 1 (.r 5), none⟩,
   ⟨.bin .neq (.r 1) (.r 6), none⟩] [] [] [(20, 7, none)])
 (.drop [5] []))
 (.cond (.s 20) (.seq (.seq (.reg [⟨.mv (.c (.bool false)), none⟩] [] [] [(3, 0, none)])
  (.drop [4, 8, 9, 20] [(true, 0)]))
  (.ret))
  (.skip)))
 (.seq (.seq (.seq (.reg [⟨.mv (.c (.int .i64 0)), none⟩] [] [] [(10, 0, none)])
 (.drop [20] []))
 (.block 2 (.loop ir_undertowlaw22_PpoFreel2)))
 (.seq (.seq (.seq (.reg [⟨.mv (.c (.int .i64 0)), none⟩] [] [] [(15, 0, none)])
 (.drop [9, 10, 21] []))
 (.block 6 (.loop ir_undertowlaw22_PpoFreel4)))
 (.seq (.seq (.reg [⟨.call .val n_undertowlaw22_alive [], none⟩,
   ⟨.mv (.r 0), none⟩] [] [] [(3, 1, none)])
 (.drop [4, 8, 15, 24] [(true, 0)]))
 (.ret)))))))))))⟩
/-- 6: undertow/undertowlaw22.PpoCut -/
def h6 : Vm.Hint := ⟨[0, 1, 2, 4, 5, 6, 7, 8, 9, 10, 11, 13, 15, 23, 37, 49, 55, 66], [2, 6], [], [[1, 0], [0, 0], [0], [0, 0], [0], [0, 0, 0], [0, 0, 0, 0, 0, 0], [0, 0, 0, 0, 0], [0, 2, 0], [0, 0, 0, 0, 0, 0, 0, 0], [0], [0, 0], [0, 0, 0], [0, 0, 0, 0, 0, 0, 0, 0], [0], [0, 0, 0, 0], [0, 0, 0], [0], [0, 0, 0, 0], [0, 0, 0], [0, 0, 0, 0, 0, 0, 0, 0, 0], [0], [0, 0, 0, 0, 0, 0, 0, 0]], [([0, 3], []), ([], []), ([1, 2, 11], [(true, 0)]), ([11], []), ([1, 2, 12], [(true, 0)]), ([1, 12], []), ([], []), ([13], []), ([13], []), ([4], []), ([], []), ([], []), ([7, 8, 9, 15], []), ([14], []), ([], []), ([], []), ([10, 16], []), ([15], []), ([], []), ([17], []), ([16], []), ([2, 5, 6, 7, 8, 9, 10, 17], [(true, 0), (true, 1)]), ([2, 5, 6, 14], [(true, 0), (true, 1)])], []⟩
def ir_undertowlaw22_PpoCutl0 : C :=
 .seq (.seq (.reg [⟨.mv (.s 10), none⟩,
   ⟨.mv (.s 8), none⟩,
   ⟨.call .val n_rel_Rel_Len [(.r 1)], none⟩,
   ⟨.bin .lss (.r 0) (.r 2), none⟩] [] [] [(16, 3, none)])
 (.cond (.s 16) (.skip)
  (.exit 4)))
 (.seq (.block 5 (.seq (.seq (.reg [⟨.mv (.s 7), none⟩,
    ⟨.mv (.s 9), none⟩,
    ⟨.mv (.s 10), none⟩,
    ⟨.call .val n_rel_Rel_Has [(.r 0), (.r 1), (.r 2)], none⟩,
    ⟨.mv (.s 8), none⟩,
    ⟨.mv (.s 9), none⟩,
    ⟨.mv (.s 10), none⟩,
    ⟨.call .val n_rel_Rel_Has [(.r 4), (.r 5), (.r 6)], none⟩,
    ⟨.eqb true (.r 3) (.r 7), none⟩] [] [] [(17, 8, none)])
  (.drop [16] []))
  (.cond (.s 17) (.seq (.seq (.reg [⟨.mv (.c (.bool false)), none⟩] [] [] [(3, 0, none)])
   (.drop [2, 5, 6, 7, 8, 9, 10, 17] [(true, 0), (true, 1)]))
   (.ret))
   (.skip))))
 (.seq (.reg [⟨.mv (.s 10), none⟩,
   ⟨.bin .add (.r 0) (.c (.int .i64 1)), none⟩,
   ⟨.mv (.r 1), none⟩] [] [] [(10, 2, none)])
 (.drop [17] [])))
def ir_undertowlaw22_PpoCutl1 : C :=
 .seq (.seq (.reg [⟨.mv (.s 9), none⟩,
   ⟨.mv (.s 8), none⟩,
   ⟨.call .val n_rel_Rel_Len [(.r 1)], none⟩,
   ⟨.bin .lss (.r 0) (.r 2), none⟩] [] [] [(15, 3, none)])
 (.cond (.s 15) (.skip)
  (.exit 2)))
 (.seq (.block 3 (.seq (.seq (.reg [⟨.mv (.c (.int .i64 0)), none⟩] [] [] [(10, 0, none)])
  (.drop [15] []))
  (.block 4 (.loop ir_undertowlaw22_PpoCutl0))))
 (.seq (.reg [⟨.mv (.s 9), none⟩,
   ⟨.bin .add (.r 0) (.c (.int .i64 1)), none⟩,
   ⟨.mv (.r 1), none⟩] [] [] [(9, 2, none)])
 (.drop [10, 16] [])))
def ir_undertowlaw22_PpoCutl2 : C :=
 .seq (.seq (.reg [⟨.mv (.s 6), none⟩,
   ⟨.bin .leq (.r 0) (.c (.int .i64 13)), none⟩] [] [] [(14, 1, none)])
 (.cond (.s 14) (.skip)
  (.exit 0)))
 (.seq (.block 1 (.seq (.seq (.reg [⟨.load 0 true 5 (.s 2), none⟩,
    ⟨.mv (.s 6), none⟩,
    ⟨.call .val n_ppo_Rule [(.r 0), (.r 1)], none⟩,
    ⟨.load 0 true 5 (.s 5), none⟩,
    ⟨.mv (.s 6), none⟩,
    ⟨.call .val n_ppo_Rule [(.r 3), (.r 4)], none⟩,
    ⟨.mv (.r 2), none⟩,
    ⟨.mv (.r 5), none⟩] [] [(0, 3), (2, 3)] [(7, 6, none), (8, 7, none)])
  (.drop [14] []))
  (.seq (.reg [⟨.mv (.c (.int .i64 0)), none⟩] [] [] [(9, 0, none)])
  (.block 2 (.loop ir_undertowlaw22_PpoCutl1)))))
 (.seq (.reg [⟨.mv (.s 6), none⟩,
   ⟨.bin .add (.r 0) (.c (.int .i64 1)), none⟩,
   ⟨.mv (.r 1), none⟩] [] [] [(6, 2, none)])
 (.drop [7, 8, 9, 15] [])))
def ir_undertowlaw22_PpoCut : Vm.Fn := ⟨[0, 1, 2, 4, 5, 6, 7, 8, 9, 10, 11, 13, 15, 23, 37, 49, 55, 66], 2, 0, [.slot 3],
 .seq (.seq (.reg [⟨.lbox 0 5 (.s 0), none⟩,
   ⟨.mv (.c (.bool false)), none⟩] [(true, 0)] [] [(2, 0, some 1), (3, 1, none)])
 (.drop [0, 3] []))
 (.seq (.seq (.reg [⟨.call .val n_undertowlaw22_alive [], none⟩,
   ⟨.un .not (.r 0), none⟩] [] [] [(11, 1, none)])
 (.cond (.s 11) (.seq (.seq (.reg [⟨.mv (.c (.bool false)), none⟩] [] [] [(3, 0, none)])
  (.drop [1, 2, 11] [(true, 0)]))
  (.ret))
  (.skip)))
 (.seq (.seq (.seq (.reg [⟨.load 0 true 5 (.s 2), none⟩,
   ⟨.call .val n_undertowref20_Great [(.r 0)], none⟩] [] [] [(12, 1, none)])
 (.drop [11] []))
 (.cond (.s 12) (.seq (.seq (.reg [⟨.mv (.c (.bool true)), none⟩] [] [] [(3, 0, none)])
  (.drop [1, 2, 12] [(true, 0)]))
  (.ret))
  (.skip)))
 (.seq (.seq (.reg [⟨.mv (.s 1), none⟩,
   ⟨.i2i .i64 (.r 0), none⟩,
   ⟨.mv (.r 1), none⟩] [] [] [(4, 2, none)])
 (.drop [1, 12] []))
 (.seq (.seq (.reg [⟨.mv (.s 4), none⟩,
   ⟨.off 1 (.s 2), none⟩,
   ⟨.iaA 3 1 (.r 1) (.c (.int .i64 2)), none⟩,
   ⟨.load 0 false 1 (.r 2), none⟩,
   ⟨.len 1 (.r 3), none⟩,
   ⟨.bin .gtr (.r 0) (.r 4), none⟩] [] [] [(13, 5, none)])
 (.cond (.s 13) (.seq (.reg [⟨.off 1 (.s 2), none⟩,
    ⟨.iaA 3 1 (.r 0) (.c (.int .i64 2)), none⟩,
    ⟨.load 0 false 1 (.r 1), none⟩,
    ⟨.len 1 (.r 2), none⟩,
    ⟨.mv (.r 3), none⟩] [] [] [(4, 4, none)])
  (.drop [13] []))
  (.skip)))
 (.seq (.seq (.reg [⟨.load 0 true 5 (.s 2), none⟩,
   ⟨.lalloc 1 [.nils, .nils, .nils, .nils, .nils], none⟩,
   ⟨.store 0 5 (.r 1) (.r 0), none⟩] [(true, 1)] [] [(5, 1, some 3)])
 (.drop [13] []))
 (.seq (.seq (.reg [⟨.off 1 (.s 2), none⟩,
   ⟨.iaA 3 1 (.r 0) (.c (.int .i64 2)), none⟩,
   ⟨.load 0 false 1 (.r 1), none⟩,
   ⟨.mv (.s 4), none⟩,
   ⟨.slc 27 (.r 2) none (some (.r 3)) none, none⟩,
   ⟨.off 1 (.s 5), none⟩,
   ⟨.iaA 3 1 (.r 5) (.c (.int .i64 2)), none⟩,
   ⟨.store 0 1 (.r 6) (.r 4), none⟩] [] [] [])
 (.drop [4] []))
 (.seq (.seq (.reg [⟨.mv (.c (.int .i64 1)), none⟩] [] [] [(6, 0, none)])
 (.block 0 (.loop ir_undertowlaw22_PpoCutl2)))
 (.seq (.seq (.reg [⟨.load 0 true 5 (.s 5), none⟩,
   ⟨.call .val n_cand_Events [(.r 0)], none⟩,
   ⟨.len 1 (.r 1), none⟩,
   ⟨.load 0 true 5 (.s 2), none⟩,
   ⟨.call .val n_cand_Events [(.r 3)], none⟩,
   ⟨.len 1 (.r 4), none⟩,
   ⟨.bin .leq (.r 2) (.r 5), none⟩,
   ⟨.mv (.r 6), none⟩] [] [(0, 3), (1, 3), (2, 3), (2, 4), (2, 5)] [(3, 7, none)])
 (.drop [2, 5, 6, 14] [(true, 0), (true, 1)]))
 (.ret)))))))))⟩
/-- 7: undertow/undertowlaw22.alive -/
def h7 : Vm.Hint := ⟨[0, 1, 2, 3, 4], [1, 2], [], [[0], [1, 0, 0, 1, 0], [0, 2, 0], [0, 0, 0, 0], [0, 0, 0, 0], [0, 0, 0, 0, 0, 0, 0, 0], [0, 0, 0], [0, 0, 0], [0, 0, 0, 0, 0, 0, 0, 0, 0, 0, 0, 0, 0, 0, 0, 0, 0, 0, 0, 0, 0, 0, 0, 0, 0, 0, 0, 0, 0, 0, 0, 0]], [([0], []), ([], []), ([], []), ([], []), ([], []), ([2], [(true, 1)]), ([], []), ([], []), ([1, 3, 4], [(true, 0)])], []⟩
def ir_undertowlaw22_alive : Vm.Fn := ⟨[0, 1, 2, 3, 4], 2, 0, [.slot 0],
 .seq (.seq (.reg [⟨.mv (.c (.bool false)), none⟩] [] [] [(0, 0, none)])
 (.drop [0] []))
 (.seq (.reg [⟨.mksv [.int .u8 0] 1 (.c (.int .i64 16)) (.c (.int .i64 16)), none⟩,
   ⟨.mksl [.nils] 24 (.c (.int .i64 16)) (.c (.int .i64 16)), none⟩,
   ⟨.build [.nils, .nils, .nils, .nils, .nils] [(0, 1, (.r 0)), (4, 1, (.r 1))], none⟩,
   ⟨.lalloc 0 [.nils, .nils, .nils, .nils, .nils], none⟩,
   ⟨.store 0 5 (.r 3) (.r 2), none⟩] [(true, 0)] [(1, 3)] [(1, 3, some 1)])
 (.seq (.reg [⟨.call .val n_undertowlaw22_one [(.c (.int .i64 50)), (.c (.int .i64 6)), (.c (.int .u64 0))], none⟩,
   ⟨.lalloc 1 [.int .u64 0, .int .i64 0, .int .i64 0, .int .i64 0, .int .i64 0, .int .i64 0, .bool false, .bool false, .int .i64 0, .int .i64 0, .int .i64 0, .int .u64 0, .int .u64 0, .int .u64 0, .int .u64 0, .bool false, .int .i64 0, .flt 0, .int .i64 0, .int .i64 0, .int .i64 0, .int .i64 0, .int .i64 0, .int .i64 0, .int .i64 0, .int .i64 0, .int .i64 0], none⟩,
   ⟨.store 0 27 (.r 1) (.r 0), none⟩] [(true, 1)] [] [(2, 1, some 3)])
 (.seq (.reg [⟨.off 0 (.s 2), none⟩,
   ⟨.off 1 (.r 0), none⟩,
   ⟨.off 7 (.r 1), none⟩,
   ⟨.store 0 1 (.r 2) (.c (.int .i64 2)), none⟩] [] [] [])
 (.seq (.reg [⟨.off 0 (.s 2), none⟩,
   ⟨.off 1 (.r 0), none⟩,
   ⟨.off 8 (.r 1), none⟩,
   ⟨.store 0 1 (.r 2) (.c (.int .i64 2)), none⟩] [] [] [])
 (.seq (.seq (.reg [⟨.call .val n_undertowlaw22_one [(.c (.int .i64 13)), (.c (.int .i64 0)), (.c (.int .u64 0))], none⟩,
   ⟨.load 0 true 27 (.s 2), none⟩,
   ⟨.call .val n_undertowlaw22_one [(.c (.int .i64 13)), (.c (.int .i64 3)), (.c (.int .u64 8))], none⟩,
   ⟨.call .val n_undertowlaw22_one [(.c (.int .i64 20)), (.c (.int .i64 9)), (.c (.int .u64 0))], none⟩,
   ⟨.lit 0 27 [[.int .u64 0, .int .i64 0, .int .i64 0, .int .i64 0, .int .i64 0, .int .i64 0, .bool false, .bool false, .int .i64 0, .int .i64 0, .int .i64 0, .int .u64 0, .int .u64 0, .int .u64 0, .int .u64 0, .bool false, .int .i64 0, .flt 0, .int .i64 0, .int .i64 0, .int .i64 0, .int .i64 0, .int .i64 0, .int .i64 0, .int .i64 0, .int .i64 0, .int .i64 0], [.int .u64 0, .int .i64 0, .int .i64 0, .int .i64 0, .int .i64 0, .int .i64 0, .bool false, .bool false, .int .i64 0, .int .i64 0, .int .i64 0, .int .u64 0, .int .u64 0, .int .u64 0, .int .u64 0, .bool false, .int .i64 0, .flt 0, .int .i64 0, .int .i64 0, .int .i64 0, .int .i64 0, .int .i64 0, .int .i64 0, .int .i64 0, .int .i64 0, .int .i64 0], [.int .u64 0, .int .i64 0, .int .i64 0, .int .i64 0, .int .i64 0, .int .i64 0, .bool false, .bool false, .int .i64 0, .int .i64 0, .int .i64 0, .int .u64 0, .int .u64 0, .int .u64 0, .int .u64 0, .bool false, .int .i64 0, .flt 0, .int .i64 0, .int .i64 0, .int .i64 0, .int .i64 0, .int .i64 0, .int .i64 0, .int .i64 0, .int .i64 0, .int .i64 0], [.int .u64 0, .int .i64 0, .int .i64 0, .int .i64 0, .int .i64 0, .int .i64 0, .bool false, .bool false, .int .i64 0, .int .i64 0, .int .i64 0, .int .u64 0, .int .u64 0, .int .u64 0, .int .u64 0, .bool false, .int .i64 0, .flt 0, .int .i64 0, .int .i64 0, .int .i64 0, .int .i64 0, .int .i64 0, .int .i64 0, .int .i64 0, .int .i64 0, .int .i64 0]] [(0, (.r 0)), (1, (.r 1)), (2, (.r 2)), (3, (.r 3))], none⟩,
   ⟨.off 1 (.s 1), none⟩,
   ⟨.iaA 3 1 (.r 5) (.c (.int .i64 1)), none⟩,
   ⟨.store 0 1 (.r 6) (.r 4), none⟩] [] [(0, 1), (1, 2), (1, 3)] [])
 (.drop [2] [(true, 1)]))
 (.seq (.reg [⟨.load 0 true 5 (.s 1), none⟩,
   ⟨.call .val n_ppo_All [(.r 0)], none⟩,
   ⟨.mv (.r 1), none⟩] [] [] [(3, 2, none)])
 (.seq (.reg [⟨.load 0 true 5 (.s 1), none⟩,
   ⟨.call .val n_ppo_Rule [(.r 0), (.c (.int .i64 4))], none⟩,
   ⟨.mv (.r 1), none⟩] [] [] [(4, 2, none)])
 (.seq (.seq (.reg [⟨.mv (.s 3), none⟩,
   ⟨.call .val n_rel_Rel_Has [(.r 0), (.c (.int .i64 0)), (.c (.int .i64 1))], none⟩,
   ⟨.mv (.r 1), none⟩,
   ⟨.mv (.s 3), some (2, true)⟩,
   ⟨.call .val n_rel_Rel_Has [(.r 3), (.c (.int .i64 0)), (.c (.int .i64 2))], some (2, true)⟩,
   ⟨.pick (.r 2) (.r 4) (.c (.bool false)), none⟩,
   ⟨.mv (.r 5), none⟩,
   ⟨.mv (.s 3), some (6, true)⟩,
   ⟨.call .val n_rel_Rel_Has [(.r 7), (.c (.int .i64 1)), (.c (.int .i64 2))], some (6, true)⟩,
   ⟨.un .not (.r 8), some (6, true)⟩,
   ⟨.pick (.r 6) (.r 9) (.c (.bool false)), none⟩,
   ⟨.mv (.r 10), none⟩,
   ⟨.mv (.s 4), some (11, true)⟩,
   ⟨.call .val n_rel_Rel_Has [(.r 12), (.c (.int .i64 0)), (.c (.int .i64 1))], some (11, true)⟩,
   ⟨.pick (.r 11) (.r 13) (.c (.bool false)), none⟩,
   ⟨.mv (.r 14), none⟩,
   ⟨.mv (.s 4), some (15, true)⟩,
   ⟨.call .val n_rel_Rel_Pairs [(.r 16)], some (15, true)⟩,
   ⟨.len 1 (.r 17), some (15, true)⟩,
   ⟨.bin .eql (.r 18) (.c (.int .i64 1)), some (15, true)⟩,
   ⟨.pick (.r 15) (.r 19) (.c (.bool false)), none⟩,
   ⟨.mv (.r 20), none⟩,
   ⟨.load 0 true 5 (.s 1), some (21, true)⟩,
   ⟨.call .val n_ppo_Rule [(.r 22), (.c (.int .i64 0))], some (21, true)⟩,
   ⟨.eqn .ptr false (.r 23) (.c (.nilp)), some (21, true)⟩,
   ⟨.pick (.r 21) (.r 24) (.c (.bool false)), none⟩,
   ⟨.mv (.r 25), none⟩,
   ⟨.load 0 true 5 (.s 1), some (26, true)⟩,
   ⟨.call .val n_ppo_Rule [(.r 27), (.c (.int .i64 14))], some (26, true)⟩,
   ⟨.eqn .ptr false (.r 28) (.c (.nilp)), some (26, true)⟩,
   ⟨.pick (.r 26) (.r 29) (.c (.bool false)), none⟩,
   ⟨.mv (.r 30), none⟩] [] [] [(0, 31, none)])
 (.drop [1, 3, 4] [(true, 0)]))
 (.ret)))))))))⟩
/-- 8: undertow/undertowref20.Great -/
def h8 : Vm.Hint := ⟨[0, 1, 2, 3, 4, 14, 16, 24, 29, 38], [1], [], [[1, 0], [0, 0, 0, 0, 0, 0, 0, 0, 0, 0], [0], [0], [0, 0], [0, 0, 0], [0, 0, 0, 0, 0, 0], [0], [0], [0, 0, 0, 0, 0], [0, 0, 0], [0, 0, 0, 0, 0, 0, 0], [0], [0]], [([0, 2], []), ([], []), ([1, 5], [(true, 0)]), ([5], []), ([], []), ([7], []), ([6], []), ([1, 3, 7], [(true, 0)]), ([3, 6], []), ([], []), ([9], []), ([8], []), ([1, 4, 9], [(true, 0)]), ([1, 4, 8], [(true, 0)])], []⟩
def ir_undertowref20_Greatl0 : C :=
 .seq (.seq (.reg [⟨.mv (.s 3), none⟩,
   ⟨.bin .lss (.r 0) (.c (.int .i64 3)), none⟩] [] [] [(6, 1, none)])
 (.cond (.s 6) (.skip)
  (.exit 0)))
 (.seq (.block 1 (.seq (.seq (.reg [⟨.mv (.s 3), none⟩,
    ⟨.off 1 (.s 1), none⟩,
    ⟨.iaA 3 1 (.r 1) (.r 0), none⟩,
    ⟨.load 0 false 1 (.r 2), none⟩,
    ⟨.len 1 (.r 3), none⟩,
    ⟨.bin .gtr (.r 4) (.c (.int .i64 60)), none⟩] [] [] [(7, 5, none)])
  (.drop [6] []))
  (.cond (.s 7) (.seq (.seq (.reg [⟨.mv (.c (.bool true)), none⟩] [] [] [(2, 0, none)])
   (.drop [1, 3, 7] [(true, 0)]))
   (.ret))
   (.skip))))
 (.seq (.reg [⟨.mv (.s 3), none⟩,
   ⟨.bin .add (.r 0) (.c (.int .i64 1)), none⟩,
   ⟨.mv (.r 1), none⟩] [] [] [(3, 2, none)])
 (.drop [7] [])))
def ir_undertowref20_Greatl1 : C :=
 .seq (.seq (.reg [⟨.mv (.s 4), none⟩,
   ⟨.off 4 (.s 1), none⟩,
   ⟨.load 0 false 1 (.r 1), none⟩,
   ⟨.len 1 (.r 2), none⟩,
   ⟨.bin .lss (.r 0) (.r 3), none⟩] [] [] [(8, 4, none)])
 (.cond (.s 8) (.skip)
  (.exit 2)))
 (.seq (.block 3 (.seq (.seq (.reg [⟨.off 4 (.s 1), none⟩,
    ⟨.load 0 false 1 (.r 0), none⟩,
    ⟨.mv (.s 4), none⟩,
    ⟨.iaS 1 (.r 1) (.r 2), none⟩,
    ⟨.load 0 false 1 (.r 3), none⟩,
    ⟨.len 1 (.r 4), none⟩,
    ⟨.bin .gtr (.r 5) (.c (.int .i64 100)), none⟩] [] [] [(9, 6, none)])
  (.drop [8] []))
  (.cond (.s 9) (.seq (.seq (.reg [⟨.mv (.c (.bool true)), none⟩] [] [] [(2, 0, none)])
   (.drop [1, 4, 9] [(true, 0)]))
   (.ret))
   (.skip))))
 (.seq (.reg [⟨.mv (.s 4), none⟩,
   ⟨.bin .add (.r 0) (.c (.int .i64 1)), none⟩,
   ⟨.mv (.r 1), none⟩] [] [] [(4, 2, none)])
 (.drop [9] [])))
def ir_undertowref20_Great : Vm.Fn := ⟨[0, 1, 2, 3, 4, 14, 16, 24, 29, 38], 1, 0, [.slot 2],
 .seq (.seq (.reg [⟨.lbox 0 5 (.s 0), none⟩,
   ⟨.mv (.c (.bool false)), none⟩] [(true, 0)] [] [(1, 0, some 1), (2, 1, none)])
 (.drop [0, 2] []))
 (.seq (.seq (.reg [⟨.off 0 (.s 1), none⟩,
   ⟨.load 0 false 1 (.r 0), none⟩,
   ⟨.len 1 (.r 1), none⟩,
   ⟨.bin .gtr (.r 2) (.c (.int .i64 200)), none⟩,
   ⟨.mv (.r 3), none⟩,
   ⟨.off 4 (.s 1), some (4, false)⟩,
   ⟨.load 0 false 1 (.r 5), some (4, false)⟩,
   ⟨.len 1 (.r 6), some (4, false)⟩,
   ⟨.bin .gtr (.r 7) (.c (.int .i64 300)), some (4, false)⟩,
   ⟨.pick (.r 4) (.c (.bool true)) (.r 8), none⟩] [] [] [(5, 9, none)])
 (.cond (.s 5) (.seq (.seq (.reg [⟨.mv (.c (.bool true)), none⟩] [] [] [(2, 0, none)])
  (.drop [1, 5] [(true, 0)]))
  (.ret))
  (.skip)))
 (.seq (.seq (.seq (.reg [⟨.mv (.c (.int .i64 0)), none⟩] [] [] [(3, 0, none)])
 (.drop [5] []))
 (.block 0 (.loop ir_undertowref20_Greatl0)))
 (.seq (.seq (.seq (.reg [⟨.mv (.c (.int .i64 0)), none⟩] [] [] [(4, 0, none)])
 (.drop [3, 6] []))
 (.block 2 (.loop ir_undertowref20_Greatl1)))
 (.seq (.seq (.reg [⟨.mv (.c (.bool false)), none⟩] [] [] [(2, 0, none)])
 (.drop [1, 4, 8] [(true, 0)]))
 (.ret)))))⟩
/-- 9: undertow/cand.Events -/
def h9 : Vm.Hint := ⟨[0, 1, 2, 3, 4, 5, 6, 7, 8, 9, 11, 12, 13, 16, 17, 18, 19, 25, 43], [1, 7, 9], [3], [[1, 0], [1], [0, 0, 0], [0], [0, 0, 0, 0], [0, 0, 0], [0], [0, 0, 0, 2, 0, 0], [0, 0, 0], [0, 0, 0, 0, 0], [0, 0, 0, 0, 0, 0, 0, 0, 0, 0, 3, 0], [0, 0, 0, 0], [0, 0, 0, 0, 0, 0], [0, 0, 1, 2, 0], [0, 0], [0, 0], [0, 0]], [([0, 2], []), ([], []), ([1], [(true, 0)]), ([], []), ([12], []), ([5], []), ([], []), ([16], []), ([], []), ([17], []), ([6, 8], []), ([], []), ([7, 18], [(true, 1)]), ([7, 9, 18], [(true, 2), (true, 1)]), ([6, 7, 17], [(true, 1)]), ([4, 13, 14, 15, 16], []), ([3, 10, 11, 12], [(false, 0)])], []⟩
def ir_cand_Eventsl0 : C :=
 .seq (.reg [⟨.bin .lss (.s 15) (.s 14), none⟩] [] [] [(16, 0, none)])
 (.seq (.cond (.s 16) (.skip)
  (.exit 2))
 (.seq (.block 3 (.seq (.seq (.reg [⟨.mv (.s 15), none⟩,
    ⟨.iaS 27 (.s 13) (.s 15), none⟩,
    ⟨.load 0 true 27 (.r 1), none⟩,
    ⟨.lalloc 1 [.int .u64 0, .int .i64 0, .int .i64 0, .int .i64 0, .int .i64 0, .int .i64 0, .bool false, .bool false, .int .i64 0, .int .i64 0, .int .i64 0, .int .u64 0, .int .u64 0, .int .u64 0, .int .u64 0, .bool false, .int .i64 0, .flt 0, .int .i64 0, .int .i64 0, .int .i64 0, .int .i64 0, .int .i64 0, .int .i64 0, .int .i64 0, .int .i64 0, .int .i64 0], none⟩,
    ⟨.mv (.r 0), none⟩,
    ⟨.store 0 27 (.r 3) (.r 2), none⟩] [(true, 1)] [] [(6, 4, none), (7, 3, some 3)])
  (.drop [16] []))
  (.seq (.seq (.reg [⟨.load 0 true 27 (.s 7), none⟩,
    ⟨.call .val n_cand_isEvent [(.r 0)], none⟩,
    ⟨.un .not (.r 1), none⟩] [] [] [(17, 2, none)])
  (.cond (.s 17) (.exit 3)
   (.skip)))
  (.seq (.seq (.reg [⟨.off 0 (.s 7), none⟩,
    ⟨.off 1 (.r 0), none⟩,
    ⟨.off 0 (.r 1), none⟩,
    ⟨.load 0 false 1 (.r 2), none⟩,
    ⟨.mv (.r 3), none⟩] [] [] [(8, 4, none)])
  (.drop [17] []))
  (.seq (.seq (.reg [⟨.mv (.s 4), none⟩,
    ⟨.mv (.s 6), none⟩,
    ⟨.load 0 true 27 (.s 7), none⟩,
    ⟨.mv (.s 8), none⟩,
    ⟨.call .val n_ops_Loads [(.r 3)], none⟩,
    ⟨.mv (.s 8), none⟩,
    ⟨.call .val n_ops_Stores [(.r 5)], none⟩,
    ⟨.mv (.s 8), none⟩,
    ⟨.call .val n_ops_Size [(.r 7)], none⟩,
    ⟨.build [.int .i64 0, .int .i64 0, .int .u64 0, .int .i64 0, .int .i64 0, .int .i64 0, .int .i64 0, .int .i64 0, .bool false, .bool false, .int .i64 0, .int .i64 0, .int .i64 0, .int .u64 0, .int .u64 0, .int .u64 0, .int .u64 0, .bool false, .int .i64 0, .flt 0, .int .i64 0, .int .i64 0, .int .i64 0, .int .i64 0, .int .i64 0, .int .i64 0, .int .i64 0, .int .i64 0, .int .i64 0, .bool false, .bool false, .int .i64 0, .int .i64 0] [(0, 1, (.r 0)), (1, 1, (.r 1)), (2, 27, (.r 2)), (29, 1, (.r 4)), (30, 1, (.r 6)), (31, 1, (.c (.int .i64 (-1)))), (32, 1, (.r 8))], none⟩,
    ⟨.lalloc 2 [.int .i64 0, .int .i64 0, .int .u64 0, .int .i64 0, .int .i64 0, .int .i64 0, .int .i64 0, .int .i64 0, .bool false, .bool false, .int .i64 0, .int .i64 0, .int .i64 0, .int .u64 0, .int .u64 0, .int .u64 0, .int .u64 0, .bool false, .int .i64 0, .flt 0, .int .i64 0, .int .i64 0, .int .i64 0, .int .i64 0, .int .i64 0, .int .i64 0, .int .i64 0, .int .i64 0, .int .i64 0, .bool false, .bool false, .int .i64 0, .int .i64 0], none⟩,
    ⟨.store 0 33 (.r 10) (.r 9), none⟩] [(true, 2)] [(2, 4), (2, 6), (2, 8), (2, 10), (4, 10), (6, 10), (8, 10)] [(9, 10, some 5)])
  (.drop [6, 8] []))
  (.seq (.seq (.reg [⟨.off 0 (.s 7), none⟩,
    ⟨.off 12 (.r 0), none⟩,
    ⟨.load 0 false 1 (.r 1), none⟩,
    ⟨.bin .leq (.r 2) (.c (.int .u64 1024)), none⟩] [] [] [(18, 3, none)])
  (.cond (.s 18) (.seq (.reg [⟨.off 0 (.s 7), none⟩,
     ⟨.off 12 (.r 0), none⟩,
     ⟨.load 0 false 1 (.r 1), none⟩,
     ⟨.i2i .i64 (.r 2), none⟩,
     ⟨.off 31 (.s 9), none⟩,
     ⟨.store 0 1 (.r 4) (.r 3), none⟩] [] [] [])
   (.drop [7, 18] [(true, 1)]))
   (.skip)))
  (.seq (.reg [⟨.mv (.s 3), none⟩,
    ⟨.load 0 true 33 (.s 9), none⟩,
    ⟨.lit 1 33 [[.int .i64 0, .int .i64 0, .int .u64 0, .int .i64 0, .int .i64 0, .int .i64 0, .int .i64 0, .int .i64 0, .bool false, .bool false, .int .i64 0, .int .i64 0, .int .i64 0, .int .u64 0, .int .u64 0, .int .u64 0, .int .u64 0, .bool false, .int .i64 0, .flt 0, .int .i64 0, .int .i64 0, .int .i64 0, .int .i64 0, .int .i64 0, .int .i64 0, .int .i64 0, .int .i64 0, .int .i64 0, .bool false, .bool false, .int .i64 0, .int .i64 0]] [(0, (.r 1))], none⟩,
    ⟨.app 2 33 248 (.r 0) (.r 2), none⟩,
    ⟨.mv (.r 3), none⟩] [] [] [(3, 4, some 0)])
  (.drop [7, 9, 18] [(true, 2), (true, 1)]))))))))
 (.seq (.reg [⟨.bin .add (.s 15) (.c (.int .i64 1)), none⟩,
   ⟨.mv (.r 0), none⟩] [] [] [(15, 1, none)])
 (.drop [6, 7, 17] [(true, 1)]))))
def ir_cand_Eventsl1 : C :=
 .seq (.reg [⟨.bin .lss (.s 11) (.c (.int .i64 3)), none⟩] [] [] [(12, 0, none)])
 (.seq (.cond (.s 12) (.skip)
  (.exit 0))
 (.seq (.block 1 (.seq (.seq (.reg [⟨.mv (.s 11), none⟩,
    ⟨.ixA 3 1 false (.s 10) (.s 11), none⟩,
    ⟨.mv (.r 0), none⟩,
    ⟨.mv (.r 1), none⟩] [] [] [(4, 2, none), (5, 3, none)])
  (.drop [12] []))
  (.seq (.seq (.reg [⟨.mv (.s 5), none⟩,
    ⟨.len 1 (.r 0), none⟩,
    ⟨.mv (.c (.int .i64 0)), none⟩] [] [] [(13, 0, none), (14, 1, none), (15, 2, none)])
  (.drop [5] []))
  (.block 2 (.loop ir_cand_Eventsl0)))))
 (.seq (.reg [⟨.bin .add (.s 11) (.c (.int .i64 1)), none⟩,
   ⟨.mv (.r 0), none⟩] [] [] [(11, 1, none)])
 (.drop [4, 13, 14, 15, 16] []))))
def ir_cand_Events : Vm.Fn := ⟨[0, 1, 2, 3, 4, 5, 6, 7, 8, 9, 11, 12, 13, 16, 17, 18, 19, 25, 43], 3, 1, [.slot 2],
 .seq (.seq (.reg [⟨.lbox 0 5 (.s 0), none⟩,
   ⟨.mv (.c (.nils)), none⟩] [(true, 0)] [] [(1, 0, some 1), (2, 1, none)])
 (.drop [0, 2] []))
 (.seq (.reg [⟨.onil 0, none⟩] [(false, 0)] [] [(3, 0, some 0)])
 (.seq (.seq (.seq (.reg [⟨.off 1 (.s 1), none⟩,
   ⟨.load 0 true 3 (.r 0), none⟩,
   ⟨.mv (.c (.int .i64 0)), none⟩] [] [] [(10, 1, none), (11, 2, none)])
 (.drop [1] [(true, 0)]))
 (.block 0 (.loop ir_cand_Eventsl1)))
 (.seq (.seq (.reg [⟨.mv (.s 3), none⟩,
   ⟨.mv (.r 0), none⟩] [] [] [(2, 1, none)])
 (.drop [3, 10, 11, 12] [(false, 0)]))
 (.ret))))⟩
/-- 10: undertow/ppo.All -/
def h10 : Vm.Hint := ⟨[0, 1, 2, 3, 4, 5, 7, 14, 21, 22, 23], [1, 7], [], [[1, 0], [0, 0, 0, 0, 0, 0, 0], [0, 0], [0], [0, 0, 0, 0, 0, 1, 0], [0, 0], [0], [0, 2, 0], [0, 0, 0, 0, 1], [0, 0], [0, 0]], [([0, 2], []), ([1], [(true, 0)]), ([4], []), ([3, 7], []), ([7], []), ([], []), ([], []), ([10], []), ([6], [(true, 1)]), ([], []), ([3, 5, 8, 9, 10], [])], []⟩
def ir_ppo_Alll0 : C :=
 .seq (.reg [⟨.bin .lss (.s 9) (.c (.int .i64 13)), none⟩] [] [] [(10, 0, none)])
 (.seq (.cond (.s 10) (.skip)
  (.exit 0))
 (.seq (.block 1 (.seq (.seq (.reg [⟨.ixA 13 1 true (.s 8) (.s 9), none⟩,
    ⟨.lalloc 1 [.nilf], none⟩,
    ⟨.store 0 1 (.r 1) (.r 0), none⟩] [(true, 1)] [] [(6, 1, some 3)])
  (.drop [10] []))
  (.seq (.reg [⟨.mv (.s 3), none⟩,
    ⟨.mv (.s 5), none⟩,
    ⟨.off 0 (.s 6), none⟩,
    ⟨.load 0 false 1 (.r 2), none⟩,
    ⟨.call .heap n_ppo_view_into [(.r 0), (.r 1), (.r 3)], none⟩] [] [] [])
  (.drop [6] [(true, 1)]))))
 (.reg [⟨.bin .add (.s 9) (.c (.int .i64 1)), none⟩,
   ⟨.mv (.r 0), none⟩] [] [] [(9, 1, none)])))
def ir_ppo_All : Vm.Fn := ⟨[0, 1, 2, 3, 4, 5, 7, 14, 21, 22, 23], 2, 0, [.slot 2],
 .seq (.seq (.reg [⟨.lbox 0 5 (.s 0), none⟩,
   ⟨.mv (.c (.nilp)), none⟩] [(true, 0)] [] [(1, 0, some 1), (2, 1, none)])
 (.drop [0, 2] []))
 (.seq (.seq (.reg [⟨.load 0 true 5 (.s 1), none⟩,
   ⟨.call .val n_ppo_look [(.r 0)], none⟩,
   ⟨.mv (.r 1), none⟩,
   ⟨.ext (.r 2) 0, none⟩,
   ⟨.ext (.r 2) 1, none⟩,
   ⟨.mv (.r 3), none⟩,
   ⟨.mv (.r 4), none⟩] [] [] [(3, 5, none), (4, 6, none)])
 (.drop [1] [(true, 0)]))
 (.seq (.seq (.seq (.reg [⟨.mv (.s 4), none⟩,
   ⟨.un .not (.r 0), none⟩] [] [] [(7, 1, none)])
 (.drop [4] []))
 (.cond (.s 7) (.seq (.seq (.reg [⟨.mv (.c (.nilp)), none⟩] [] [] [(2, 0, none)])
  (.drop [3, 7] []))
  (.ret))
  (.skip)))
 (.seq (.seq (.reg [⟨.mv (.s 3), none⟩,
   ⟨.nilck (.r 0), none⟩,
   ⟨.off 0 (.r 1), none⟩,
   ⟨.load 0 false 1 (.r 2), none⟩,
   ⟨.len 1 (.r 3), none⟩,
   ⟨.call .heap n_rel_New [(.r 4)], none⟩,
   ⟨.mv (.r 5), none⟩] [] [] [(5, 6, none)])
 (.drop [7] []))
 (.seq (.seq (.reg [⟨.call .val n_ppo_rules [], none⟩,
   ⟨.mv (.c (.int .i64 0)), none⟩] [] [] [(8, 0, none), (9, 1, none)])
 (.block 0 (.loop ir_ppo_Alll0)))
 (.seq (.seq (.reg [⟨.mv (.s 5), none⟩,
   ⟨.mv (.r 0), none⟩] [] [] [(2, 1, none)])
 (.drop [3, 5, 8, 9, 10] []))
 (.ret))))))⟩
/-- 11: (*undertow/rel.Rel).Pairs -/
def h11 : Vm.Hint := ⟨[0, 2, 3, 4, 6, 8, 9, 10, 19, 20, 21, 22], [], [3], [[0], [1], [0, 0, 0], [0], [0, 0], [0, 0, 0, 0, 0, 0, 0, 0, 0, 0], [0], [0, 0, 0], [0, 0, 0, 0, 1, 2, 0], [0, 0], [0, 0], [0, 0]], [([1], []), ([], []), ([], []), ([], []), ([7], []), ([], []), ([], []), ([11], []), ([4], []), ([], []), ([3, 8, 9, 10, 11], []), ([0, 2, 5, 6, 7], [(false, 0)])], []⟩
def ir_rel_Rel_Pairsl0 : C :=
 .seq (.reg [⟨.bin .lss (.s 10) (.s 9), none⟩] [] [] [(11, 0, none)])
 (.seq (.cond (.s 11) (.skip)
  (.exit 2))
 (.seq (.block 3 (.seq (.seq (.reg [⟨.iaS 1 (.s 8) (.s 10), none⟩,
    ⟨.load 0 false 1 (.r 0), none⟩,
    ⟨.mv (.r 1), none⟩] [] [] [(4, 2, none)])
  (.drop [11] []))
  (.seq (.reg [⟨.mv (.s 2), none⟩,
    ⟨.mv (.s 3), none⟩,
    ⟨.mv (.s 4), none⟩,
    ⟨.build [.int .i64 0, .int .i64 0] [(0, 1, (.r 1)), (1, 1, (.r 2))], none⟩,
    ⟨.lit 1 2 [[.int .i64 0, .int .i64 0]] [(0, (.r 3))], none⟩,
    ⟨.app 2 2 16 (.r 0) (.r 4), none⟩,
    ⟨.mv (.r 5), none⟩] [] [] [(2, 6, some 0)])
  (.drop [4] []))))
 (.reg [⟨.bin .add (.s 10) (.c (.int .i64 1)), none⟩,
   ⟨.mv (.r 0), none⟩] [] [] [(10, 1, none)])))
def ir_rel_Rel_Pairsl1 : C :=
 .seq (.reg [⟨.bin .lss (.s 6) (.s 5), none⟩] [] [] [(7, 0, none)])
 (.seq (.cond (.s 7) (.skip)
  (.exit 0))
 (.seq (.block 1 (.seq (.seq (.reg [⟨.mv (.s 6), none⟩,
    ⟨.mv (.r 0), none⟩] [] [] [(3, 1, none)])
  (.drop [7] []))
  (.seq (.reg [⟨.mv (.s 0), none⟩,
    ⟨.nilck (.r 0), none⟩,
    ⟨.off 0 (.r 1), none⟩,
    ⟨.load 0 false 1 (.r 2), none⟩,
    ⟨.mv (.s 3), none⟩,
    ⟨.iaS 1 (.r 3) (.r 4), none⟩,
    ⟨.load 0 false 1 (.r 5), none⟩,
    ⟨.call .val n_rel_row_each [(.r 6)], none⟩,
    ⟨.len 1 (.r 7), none⟩,
    ⟨.mv (.c (.int .i64 0)), none⟩] [] [] [(8, 7, none), (9, 8, none), (10, 9, none)])
  (.block 2 (.loop ir_rel_Rel_Pairsl0)))))
 (.seq (.reg [⟨.bin .add (.s 6) (.c (.int .i64 1)), none⟩,
   ⟨.mv (.r 0), none⟩] [] [] [(6, 1, none)])
 (.drop [3, 8, 9, 10, 11] []))))
def ir_rel_Rel_Pairs : Vm.Fn := ⟨[0, 2, 3, 4, 6, 8, 9, 10, 19, 20, 21, 22], 0, 1, [.slot 1],
 .seq (.seq (.reg [⟨.mv (.c (.nils)), none⟩] [] [] [(1, 0, none)])
 (.drop [1] []))
 (.seq (.reg [⟨.onil 0, none⟩] [(false, 0)] [] [(2, 0, some 0)])
 (.seq (.seq (.reg [⟨.mv (.s 0), none⟩,
   ⟨.call .val n_rel_Rel_Len [(.r 0)], none⟩,
   ⟨.mv (.c (.int .i64 0)), none⟩] [] [] [(5, 1, none), (6, 2, none)])
 (.block 0 (.loop ir_rel_Rel_Pairsl1)))
 (.seq (.seq (.reg [⟨.mv (.s 2), none⟩,
   ⟨.mv (.r 0), none⟩] [] [] [(1, 1, none)])
 (.drop [0, 2, 5, 6, 7] [(false, 0)]))
 (.ret))))⟩
/-- 12: (*undertow/rel.Rel).Len -/
def h12 : Vm.Hint := ⟨[0, 2, 4], [], [], [[0], [0, 0], [0], [0, 0, 0, 0, 0, 0]], [([1], []), ([], []), ([0, 2], []), ([0, 2], [])], []⟩
def ir_rel_Rel_Len : Vm.Fn := ⟨[0, 2, 4], 0, 0, [.slot 1],
 .seq (.seq (.reg [⟨.mv (.c (.int .i64 0)), none⟩] [] [] [(1, 0, none)])
 (.drop [1] []))
 (.seq (.seq (.reg [⟨.mv (.s 0), none⟩,
   ⟨.eqn .ptr false (.r 0) (.c (.nilp)), none⟩] [] [] [(2, 1, none)])
 (.cond (.s 2) (.seq (.seq (.reg [⟨.mv (.c (.int .i64 0)), none⟩] [] [] [(1, 0, none)])
  (.drop [0, 2] []))
  (.ret))
  (.skip)))
 (.seq (.seq (.reg [⟨.mv (.s 0), none⟩,
   ⟨.nilck (.r 0), none⟩,
   ⟨.off 0 (.r 1), none⟩,
   ⟨.load 0 false 1 (.r 2), none⟩,
   ⟨.len 1 (.r 3), none⟩,
   ⟨.mv (.r 4), none⟩] [] [] [(1, 5, none)])
 (.drop [0, 2] []))
 (.ret)))⟩
/-- 13: (*undertow/rel.Rel).Has -/
def h13 : Vm.Hint := ⟨[0, 1, 2, 6], [], [], [[0], [0, 0, 0, 0, 0, 0, 0, 0, 0, 0, 0, 0, 0, 0, 0, 0, 0, 0, 0, 0]], [([3], []), ([0, 1, 2], [])], []⟩
def ir_rel_Rel_Has : Vm.Fn := ⟨[0, 1, 2, 6], 0, 0, [.slot 3],
 .seq (.seq (.reg [⟨.mv (.c (.bool false)), none⟩] [] [] [(3, 0, none)])
 (.drop [3] []))
 (.seq (.seq (.reg [⟨.mv (.s 0), none⟩,
   ⟨.mv (.s 1), none⟩,
   ⟨.call .val n_rel_Rel_is [(.r 0), (.r 1)], none⟩,
   ⟨.mv (.r 2), none⟩,
   ⟨.mv (.s 0), some (3, true)⟩,
   ⟨.mv (.s 2), some (3, true)⟩,
   ⟨.call .val n_rel_Rel_is [(.r 4), (.r 5)], some (3, true)⟩,
   ⟨.pick (.r 3) (.r 6) (.c (.bool false)), none⟩,
   ⟨.mv (.r 7), none⟩,
   ⟨.mv (.s 0), some (8, true)⟩,
   ⟨.nilck (.r 9), some (8, true)⟩,
   ⟨.off 0 (.r 10), some (8, true)⟩,
   ⟨.load 0 false 1 (.r 11), some (8, true)⟩,
   ⟨.mv (.s 1), some (8, true)⟩,
   ⟨.iaS 1 (.r 12) (.r 13), some (8, true)⟩,
   ⟨.load 0 false 1 (.r 14), some (8, true)⟩,
   ⟨.mv (.s 2), some (8, true)⟩,
   ⟨.call .val n_rel_row_has [(.r 15), (.r 16)], some (8, true)⟩,
   ⟨.pick (.r 8) (.r 17) (.c (.bool false)), none⟩,
   ⟨.mv (.r 18), none⟩] [] [] [(3, 19, none)])
 (.drop [0, 1, 2] []))
 (.ret))⟩
/-- 14: undertow/undertowlaw22.one -/
def h14 : Vm.Hint := ⟨[0, 1, 2, 6], [6], [], [[1], [0, 0, 0, 0, 0, 0, 0, 0]], [([], []), ([0, 1, 2], [])], []⟩
def ir_undertowlaw22_one : Vm.Fn := ⟨[0, 1, 2, 6], 1, 0, [.cell 3 true 27],
 .seq (.reg [⟨.lalloc 0 [.int .u64 0, .int .i64 0, .int .i64 0, .int .i64 0, .int .i64 0, .int .i64 0, .bool false, .bool false, .int .i64 0, .int .i64 0, .int .i64 0, .int .u64 0, .int .u64 0, .int .u64 0, .int .u64 0, .bool false, .int .i64 0, .flt 0, .int .i64 0, .int .i64 0, .int .i64 0, .int .i64 0, .int .i64 0, .int .i64 0, .int .i64 0, .int .i64 0, .int .i64 0], none⟩] [(true, 0)] [] [(3, 0, some 1)])
 (.seq (.seq (.reg [⟨.mv (.s 0), none⟩,
   ⟨.build [.int .i64 0, .int .i64 0, .int .i64 0, .int .i64 0, .int .i64 0, .bool false, .bool false, .int .i64 0, .int .i64 0] [(0, 1, (.r 0))], none⟩,
   ⟨.mv (.s 2), none⟩,
   ⟨.build [.int .u64 0, .int .i64 0, .int .i64 0, .int .i64 0, .int .i64 0, .int .i64 0, .bool false, .bool false, .int .i64 0, .int .i64 0, .int .i64 0, .int .u64 0, .int .u64 0, .int .u64 0, .int .u64 0, .bool false] [(1, 9, (.r 1)), (12, 1, (.r 2))], none⟩,
   ⟨.mv (.s 1), none⟩,
   ⟨.build [.int .i64 0, .int .i64 0, .int .i64 0, .int .i64 0, .int .i64 0, .int .i64 0, .int .i64 0, .int .i64 0] [(0, 1, (.c (.int .i64 (-1)))), (1, 1, (.c (.int .i64 (-1)))), (2, 1, (.c (.int .i64 (-1)))), (3, 1, (.c (.int .i64 (-1)))), (4, 1, (.c (.int .i64 (-1)))), (5, 1, (.c (.int .i64 (-1)))), (6, 1, (.c (.int .i64 (-1)))), (7, 1, (.c (.int .i64 (-1))))], none⟩,
   ⟨.build [.int .u64 0, .int .i64 0, .int .i64 0, .int .i64 0, .int .i64 0, .int .i64 0, .bool false, .bool false, .int .i64 0, .int .i64 0, .int .i64 0, .int .u64 0, .int .u64 0, .int .u64 0, .int .u64 0, .bool false, .int .i64 0, .flt 0, .int .i64 0, .int .i64 0, .int .i64 0, .int .i64 0, .int .i64 0, .int .i64 0, .int .i64 0, .int .i64 0, .int .i64 0] [(0, 16, (.r 3)), (16, 1, (.r 4)), (26, 1, (.c (.int .i64 (-1)))), (18, 8, (.r 5))], none⟩,
   ⟨.store 0 27 (.s 3) (.r 6), none⟩] [] [] [])
 (.drop [0, 1, 2] []))
 (.ret))⟩
/-- 15: undertow/undertowref05.Sort -/
def h15 : Vm.Hint := ⟨[0, 2, 3, 4, 7, 11, 19], [], [], [[0], [0, 0], [0, 0], [0], [0], [0, 0, 0, 0], [0, 0, 0], [0, 0, 0, 0, 0, 0], [0, 0, 0], [0, 0, 0, 0, 0, 0, 0], [0]], [], []⟩
def ir_undertowref05_Sortl0 : C :=
 .seq (.seq (.reg [⟨.mv (.s 3), none⟩,
   ⟨.mv (.s 2), none⟩,
   ⟨.len 1 (.r 1), none⟩,
   ⟨.bin .lss (.r 0) (.r 2), none⟩] [] [] [(5, 3, none)])
 (.cond (.s 5) (.skip)
  (.exit 0)))
 (.seq (.block 1 (.seq (.seq (.reg [⟨.mv (.s 0), none⟩,
    ⟨.mv (.s 2), none⟩,
    ⟨.mv (.s 3), none⟩,
    ⟨.iaS 1 (.r 1) (.r 2), none⟩,
    ⟨.load 0 false 1 (.r 3), none⟩,
    ⟨.bin .leq (.r 0) (.r 4), none⟩] [] [] [(6, 5, none)])
  (.cond (.s 6) (.seq (.reg [⟨.mv (.s 3), none⟩,
     ⟨.bin .add (.r 0) (.c (.int .i64 1)), none⟩,
     ⟨.mv (.r 1), none⟩] [] [] [(1, 2, none)])
   (.ret))
   (.skip)))
  (.reg [⟨.mv (.s 0), none⟩,
    ⟨.mv (.s 2), none⟩,
    ⟨.mv (.s 3), none⟩,
    ⟨.iaS 1 (.r 1) (.r 2), none⟩,
    ⟨.load 0 false 1 (.r 3), none⟩,
    ⟨.bin .sub (.r 0) (.r 4), none⟩,
    ⟨.mv (.r 5), none⟩] [] [] [(0, 6, none)])))
 (.reg [⟨.mv (.s 3), none⟩,
   ⟨.bin .add (.r 0) (.c (.int .i64 1)), none⟩,
   ⟨.mv (.r 1), none⟩] [] [] [(3, 2, none)]))
def ir_undertowref05_Sort : Vm.Fn := ⟨[0, 2, 3, 4, 7, 11, 19], 0, 0, [.slot 1],
 .seq (.reg [⟨.mv (.c (.int .i64 0)), none⟩] [] [] [(1, 0, none)])
 (.seq (.reg [⟨.lit 0 1 [[.int .i64 0], [.int .i64 0], [.int .i64 0], [.int .i64 0], [.int .i64 0], [.int .i64 0], [.int .i64 0], [.int .i64 0], [.int .i64 0], [.int .i64 0], [.int .i64 0], [.int .i64 0]] [(0, (.c (.int .i64 2))), (1, (.c (.int .i64 2))), (2, (.c (.int .i64 6))), (3, (.c (.int .i64 7))), (4, (.c (.int .i64 4))), (5, (.c (.int .i64 13))), (6, (.c (.int .i64 15))), (7, (.c (.int .i64 2))), (8, (.c (.int .i64 2))), (9, (.c (.int .i64 2))), (10, (.c (.int .i64 2))), (11, (.c (.int .i64 18)))], none⟩,
   ⟨.mv (.r 0), none⟩] [] [] [(2, 1, none)])
 (.seq (.seq (.reg [⟨.mv (.s 0), none⟩,
   ⟨.bin .lss (.r 0) (.c (.int .i64 1)), none⟩] [] [] [(4, 1, none)])
 (.cond (.s 4) (.seq (.reg [⟨.mv (.c (.int .i64 0)), none⟩] [] [] [(1, 0, none)])
  (.ret))
  (.skip)))
 (.seq (.seq (.reg [⟨.mv (.c (.int .i64 0)), none⟩] [] [] [(3, 0, none)])
 (.block 0 (.loop ir_undertowref05_Sortl0)))
 (.seq (.reg [⟨.mv (.c (.int .i64 0)), none⟩] [] [] [(1, 0, none)])
 (.ret)))))⟩
/-- 16: undertow/ppo.Rule -/
def h16 : Vm.Hint := ⟨[0, 1, 2, 4, 5, 6, 7, 22], [2], [], [[1, 0], [0, 0, 0, 0, 0, 0, 0], [0, 0, 0, 0, 0, 0, 0, 0, 0, 0], [0], [0, 0, 0, 0, 0, 1, 0], [0, 0, 0, 0, 0, 0, 0, 1], [0, 0]], [([0, 3], []), ([2], [(true, 0)]), ([5], []), ([1, 4, 7], []), ([7], []), ([1, 4], []), ([6], [])], []⟩
def ir_ppo_Rule : Vm.Fn := ⟨[0, 1, 2, 4, 5, 6, 7, 22], 1, 0, [.slot 3],
 .seq (.seq (.reg [⟨.lbox 0 5 (.s 0), none⟩,
   ⟨.mv (.c (.nilp)), none⟩] [(true, 0)] [] [(2, 0, some 1), (3, 1, none)])
 (.drop [0, 3] []))
 (.seq (.seq (.reg [⟨.load 0 true 5 (.s 2), none⟩,
   ⟨.call .val n_ppo_look [(.r 0)], none⟩,
   ⟨.mv (.r 1), none⟩,
   ⟨.ext (.r 2) 0, none⟩,
   ⟨.ext (.r 2) 1, none⟩,
   ⟨.mv (.r 3), none⟩,
   ⟨.mv (.r 4), none⟩] [] [] [(4, 5, none), (5, 6, none)])
 (.drop [2] [(true, 0)]))
 (.seq (.seq (.seq (.reg [⟨.mv (.s 5), none⟩,
   ⟨.un .not (.r 0), none⟩,
   ⟨.mv (.r 1), none⟩,
   ⟨.mv (.s 1), some (2, false)⟩,
   ⟨.bin .lss (.r 3) (.c (.int .i64 1)), some (2, false)⟩,
   ⟨.pick (.r 2) (.c (.bool true)) (.r 4), none⟩,
   ⟨.mv (.r 5), none⟩,
   ⟨.mv (.s 1), some (6, false)⟩,
   ⟨.bin .gtr (.r 7) (.c (.int .i64 13)), some (6, false)⟩,
   ⟨.pick (.r 6) (.c (.bool true)) (.r 8), none⟩] [] [] [(7, 9, none)])
 (.drop [5] []))
 (.cond (.s 7) (.seq (.seq (.reg [⟨.mv (.c (.nilp)), none⟩] [] [] [(3, 0, none)])
  (.drop [1, 4, 7] []))
  (.ret))
  (.skip)))
 (.seq (.seq (.reg [⟨.mv (.s 4), none⟩,
   ⟨.nilck (.r 0), none⟩,
   ⟨.off 0 (.r 1), none⟩,
   ⟨.load 0 false 1 (.r 2), none⟩,
   ⟨.len 1 (.r 3), none⟩,
   ⟨.call .heap n_rel_New [(.r 4)], none⟩,
   ⟨.mv (.r 5), none⟩] [] [] [(6, 6, none)])
 (.drop [7] []))
 (.seq (.seq (.reg [⟨.mv (.s 4), none⟩,
   ⟨.mv (.s 6), none⟩,
   ⟨.call .val n_ppo_rules [], none⟩,
   ⟨.mv (.s 1), none⟩,
   ⟨.bin .sub (.r 3) (.c (.int .i64 1)), none⟩,
   ⟨.ixA 13 1 true (.r 2) (.r 4), none⟩,
   ⟨.fld 0 false 1 (.r 5), none⟩,
   ⟨.call .heap n_ppo_view_into [(.r 0), (.r 1), (.r 6)], none⟩] [] [] [])
 (.drop [1, 4] []))
 (.seq (.seq (.reg [⟨.mv (.s 6), none⟩,
   ⟨.mv (.r 0), none⟩] [] [] [(3, 1, none)])
 (.drop [6] []))
 (.ret))))))⟩
/-- 17: undertow/cand.isEvent -/
def h17 : Vm.Hint := ⟨[0, 1, 2], [1], [], [[1, 0], [0, 0, 0, 0, 0, 0, 0, 0, 0, 0, 0, 0, 0, 0, 0, 0, 0, 0, 0, 0, 0, 0, 0, 0, 0, 0]], [([0, 2], []), ([1], [(true, 0)])], []⟩
def ir_cand_isEvent : Vm.Fn := ⟨[0, 1, 2], 1, 0, [.slot 2],
 .seq (.seq (.reg [⟨.lbox 0 27 (.s 0), none⟩,
   ⟨.mv (.c (.bool false)), none⟩] [(true, 0)] [] [(1, 0, some 1), (2, 1, none)])
 (.drop [0, 2] []))
 (.seq (.seq (.reg [⟨.off 0 (.s 1), none⟩,
   ⟨.off 10 (.r 0), none⟩,
   ⟨.load 0 false 1 (.r 1), none⟩,
   ⟨.bin .eql (.r 2) (.c (.int .i64 0)), none⟩,
   ⟨.mv (.r 3), none⟩,
   ⟨.off 0 (.s 1), some (4, true)⟩,
   ⟨.off 1 (.r 5), some (4, true)⟩,
   ⟨.off 0 (.r 6), some (4, true)⟩,
   ⟨.load 0 false 1 (.r 7), some (4, true)⟩,
   ⟨.call .val n_ops_Memory [(.r 8)], some (4, true)⟩,
   ⟨.pick (.r 4) (.r 9) (.c (.bool false)), none⟩,
   ⟨.mv (.r 10), none⟩,
   ⟨.off 0 (.s 1), some (11, true)⟩,
   ⟨.off 1 (.r 12), some (11, true)⟩,
   ⟨.off 0 (.r 13), some (11, true)⟩,
   ⟨.load 0 false 1 (.r 14), some (11, true)⟩,
   ⟨.call .val n_ops_Sort [(.r 15)], some (11, true)⟩,
   ⟨.bin .neq (.r 16) (.c (.int .i64 11)), some (11, true)⟩,
   ⟨.mv (.r 17), some (11, true)⟩,
   ⟨.off 0 (.s 1), some (18, false)⟩,
   ⟨.off 15 (.r 19), some (18, false)⟩,
   ⟨.load 0 false 1 (.r 20), some (18, false)⟩,
   ⟨.un .not (.r 21), some (18, false)⟩,
   ⟨.pick (.r 18) (.c (.bool true)) (.r 22), some (11, true)⟩,
   ⟨.pick (.r 11) (.r 23) (.c (.bool false)), none⟩,
   ⟨.mv (.r 24), none⟩] [] [] [(2, 25, none)])
 (.drop [1] [(true, 0)]))
 (.ret))⟩
/-- 18: undertow/ops.Loads -/
def h18 : Vm.Hint := ⟨[0, 2, 4, 5], [], [], [[0], [0, 0], [0, 0], [0, 0], [0, 0], [0], [0]], [([1], []), ([0], []), ([], []), ([], []), ([2], []), ([2, 3], []), ([2, 3], [])], []⟩
def ir_ops_Loads : Vm.Fn := ⟨[0, 2, 4, 5], 0, 0, [.slot 1],
 .seq (.seq (.reg [⟨.mv (.c (.bool false)), none⟩] [] [] [(1, 0, none)])
 (.drop [1] []))
 (.seq (.seq (.seq (.reg [⟨.mv (.s 0), none⟩,
   ⟨.call .val n_ops_Sort [(.r 0)], none⟩] [] [] [(2, 1, none)])
 (.drop [0] []))
 (.block 0 (.seq (.seq (.reg [⟨.bin .eql (.s 2) (.c (.int .i64 4)), none⟩,
    ⟨.mv (.r 0), none⟩] [] [] [(3, 1, none)])
  (.cond (.s 3) (.skip)
   (.seq (.reg [⟨.bin .eql (.s 2) (.c (.int .i64 10)), none⟩,
     ⟨.mv (.r 0), none⟩] [] [] [(3, 1, none)])
   (.cond (.s 3) (.skip)
    (.seq (.reg [⟨.bin .eql (.s 2) (.c (.int .i64 12)), none⟩,
      ⟨.mv (.r 0), none⟩] [] [] [(3, 1, none)])
    (.drop [2] []))))))
  (.cond (.s 3) (.seq (.seq (.reg [⟨.mv (.c (.bool true)), none⟩] [] [] [(1, 0, none)])
   (.drop [2, 3] []))
   (.ret))
   (.skip)))))
 (.seq (.seq (.reg [⟨.mv (.c (.bool false)), none⟩] [] [] [(1, 0, none)])
 (.drop [2, 3] []))
 (.ret)))⟩
/-- 19: undertow/ops.Stores -/
def h19 : Vm.Hint := ⟨[0, 2, 4, 5], [], [], [[0], [0, 0], [0, 0], [0, 0], [0, 0], [0], [0]], [([1], []), ([0], []), ([], []), ([], []), ([2], []), ([2, 3], []), ([2, 3], [])], []⟩
def ir_ops_Stores : Vm.Fn := ⟨[0, 2, 4, 5], 0, 0, [.slot 1],
 .seq (.seq (.reg [⟨.mv (.c (.bool false)), none⟩] [] [] [(1, 0, none)])
 (.drop [1] []))
 (.seq (.seq (.seq (.reg [⟨.mv (.s 0), none⟩,
   ⟨.call .val n_ops_Sort [(.r 0)], none⟩] [] [] [(2, 1, none)])
 (.drop [0] []))
 (.block 0 (.seq (.seq (.reg [⟨.bin .eql (.s 2) (.c (.int .i64 5)), none⟩,
    ⟨.mv (.r 0), none⟩] [] [] [(3, 1, none)])
  (.cond (.s 3) (.skip)
   (.seq (.reg [⟨.bin .eql (.s 2) (.c (.int .i64 11)), none⟩,
     ⟨.mv (.r 0), none⟩] [] [] [(3, 1, none)])
   (.cond (.s 3) (.skip)
    (.seq (.reg [⟨.bin .eql (.s 2) (.c (.int .i64 12)), none⟩,
      ⟨.mv (.r 0), none⟩] [] [] [(3, 1, none)])
    (.drop [2] []))))))
  (.cond (.s 3) (.seq (.seq (.reg [⟨.mv (.c (.bool true)), none⟩] [] [] [(1, 0, none)])
   (.drop [2, 3] []))
   (.ret))
   (.skip)))))
 (.seq (.seq (.reg [⟨.mv (.c (.bool false)), none⟩] [] [] [(1, 0, none)])
 (.drop [2, 3] []))
 (.ret)))⟩
/-- 20: undertow/ops.Size -/
def h20 : Vm.Hint := ⟨[0, 2, 3, 4, 8, 12, 18, 23, 27], [], [], [[0], [0], [0, 0], [0, 0], [0, 0], [0], [0, 0], [0, 0], [0, 0], [0], [0, 0], [0, 0], [0, 0], [0, 0], [0, 0], [0], [0, 0], [0, 0], [0, 0], [0, 0], [0], [0, 0, 0, 0], [0], [0, 0, 0], [0], [0]], [], []⟩
def ir_ops_Size : Vm.Fn := ⟨[0, 2, 3, 4, 8, 12, 18, 23, 27], 0, 0, [.slot 1],
 .seq (.reg [⟨.mv (.c (.int .i64 0)), none⟩] [] [] [(1, 0, none)])
 (.seq (.seq (.reg [⟨.mv (.s 0), none⟩] [] [] [(2, 0, none)])
 (.block 0 (.seq (.seq (.reg [⟨.bin .eql (.s 2) (.c (.int .i64 11)), none⟩,
    ⟨.mv (.r 0), none⟩] [] [] [(3, 1, none)])
  (.cond (.s 3) (.skip)
   (.seq (.reg [⟨.bin .eql (.s 2) (.c (.int .i64 15)), none⟩,
     ⟨.mv (.r 0), none⟩] [] [] [(3, 1, none)])
   (.cond (.s 3) (.skip)
    (.reg [⟨.bin .eql (.s 2) (.c (.int .i64 18)), none⟩,
      ⟨.mv (.r 0), none⟩] [] [] [(3, 1, none)])))))
  (.cond (.s 3) (.seq (.reg [⟨.mv (.c (.int .i64 1)), none⟩] [] [] [(1, 0, none)])
   (.ret))
   (.seq (.seq (.reg [⟨.bin .eql (.s 2) (.c (.int .i64 12)), none⟩,
     ⟨.mv (.r 0), none⟩] [] [] [(4, 1, none)])
   (.cond (.s 4) (.skip)
    (.seq (.reg [⟨.bin .eql (.s 2) (.c (.int .i64 16)), none⟩,
      ⟨.mv (.r 0), none⟩] [] [] [(4, 1, none)])
    (.cond (.s 4) (.skip)
     (.reg [⟨.bin .eql (.s 2) (.c (.int .i64 19)), none⟩,
       ⟨.mv (.r 0), none⟩] [] [] [(4, 1, none)])))))
   (.cond (.s 4) (.seq (.reg [⟨.mv (.c (.int .i64 2)), none⟩] [] [] [(1, 0, none)])
    (.ret))
    (.seq (.seq (.reg [⟨.bin .eql (.s 2) (.c (.int .i64 13)), none⟩,
      ⟨.mv (.r 0), none⟩] [] [] [(5, 1, none)])
    (.cond (.s 5) (.skip)
     (.seq (.reg [⟨.bin .eql (.s 2) (.c (.int .i64 17)), none⟩,
       ⟨.mv (.r 0), none⟩] [] [] [(5, 1, none)])
     (.cond (.s 5) (.skip)
      (.seq (.reg [⟨.bin .eql (.s 2) (.c (.int .i64 20)), none⟩,
        ⟨.mv (.r 0), none⟩] [] [] [(5, 1, none)])
      (.cond (.s 5) (.skip)
       (.seq (.reg [⟨.bin .eql (.s 2) (.c (.int .i64 54)), none⟩,
         ⟨.mv (.r 0), none⟩] [] [] [(5, 1, none)])
       (.cond (.s 5) (.skip)
        (.reg [⟨.bin .eql (.s 2) (.c (.int .i64 56)), none⟩,
          ⟨.mv (.r 0), none⟩] [] [] [(5, 1, none)])))))))))
    (.cond (.s 5) (.seq (.reg [⟨.mv (.c (.int .i64 4)), none⟩] [] [] [(1, 0, none)])
     (.ret))
     (.seq (.seq (.reg [⟨.bin .eql (.s 2) (.c (.int .i64 14)), none⟩,
       ⟨.mv (.r 0), none⟩] [] [] [(6, 1, none)])
     (.cond (.s 6) (.skip)
      (.seq (.reg [⟨.bin .eql (.s 2) (.c (.int .i64 21)), none⟩,
        ⟨.mv (.r 0), none⟩] [] [] [(6, 1, none)])
      (.cond (.s 6) (.skip)
       (.seq (.reg [⟨.bin .eql (.s 2) (.c (.int .i64 55)), none⟩,
         ⟨.mv (.r 0), none⟩] [] [] [(6, 1, none)])
       (.cond (.s 6) (.skip)
        (.reg [⟨.bin .eql (.s 2) (.c (.int .i64 57)), none⟩,
          ⟨.mv (.r 0), none⟩] [] [] [(6, 1, none)])))))))
     (.cond (.s 6) (.seq (.reg [⟨.mv (.c (.int .i64 8)), none⟩] [] [] [(1, 0, none)])
      (.ret))
      (.skip)))))))))))
 (.seq (.block 1 (.seq (.reg [⟨.mv (.s 0), none⟩,
    ⟨.call .val n_ops_Sort [(.r 0)], none⟩,
    ⟨.bin .neq (.r 1) (.c (.int .i64 12)), none⟩,
    ⟨.mv (.r 2), none⟩] [] [] [(7, 3, none)])
  (.cond (.s 7) (.seq (.reg [⟨.mv (.c (.int .i64 0)), none⟩] [] [] [(1, 0, none)])
   (.ret))
   (.seq (.reg [⟨.mv (.s 0), none⟩,
     ⟨.bin .leq (.r 0) (.c (.int .i64 66)), none⟩,
     ⟨.mv (.r 1), none⟩] [] [] [(8, 2, none)])
   (.cond (.s 8) (.seq (.reg [⟨.mv (.c (.int .i64 4)), none⟩] [] [] [(1, 0, none)])
    (.ret))
    (.skip))))))
 (.seq (.reg [⟨.mv (.c (.int .i64 8)), none⟩] [] [] [(1, 0, none)])
 (.ret))))⟩
/-- 21: undertow/ppo.look -/
def h21 : Vm.Hint := ⟨[0, 1, 2, 3, 4, 6, 7, 8, 9, 11, 12, 13, 21, 27, 28, 29], [1], [], [[1, 0, 0], [0], [0, 0, 0], [0], [0, 0], [0, 0, 0, 0, 0], [0, 0], [0, 0], [0, 0], [0, 0, 0, 0, 0], [0, 0, 0], [0], [0, 0, 0, 0], [0, 0, 0, 0, 0, 0, 0, 0, 0, 0, 0, 0, 0, 0], [0, 0], [0, 0, 0]], [([0, 2, 3], []), ([], []), ([], []), ([], []), ([11], []), ([5], []), ([], []), ([4, 9, 10, 11], []), ([1, 12], [(true, 0)]), ([12], []), ([1], [(true, 0)]), ([], []), ([15], []), ([7, 8], []), ([], []), ([6, 13, 14, 15], [])], []⟩
def ir_ppo_lookl0 : C :=
 .seq (.reg [⟨.bin .lss (.s 10) (.c (.int .i64 3)), none⟩] [] [] [(11, 0, none)])
 (.seq (.cond (.s 11) (.skip)
  (.exit 0))
 (.seq (.block 1 (.seq (.seq (.reg [⟨.ixA 3 1 false (.s 9) (.s 10), none⟩,
    ⟨.mv (.r 0), none⟩] [] [] [(5, 1, none)])
  (.drop [11] []))
  (.seq (.reg [⟨.mv (.s 4), none⟩,
    ⟨.mv (.s 5), none⟩,
    ⟨.len 1 (.r 1), none⟩,
    ⟨.bin .add (.r 0) (.r 2), none⟩,
    ⟨.mv (.r 3), none⟩] [] [] [(4, 4, none)])
  (.drop [5] []))))
 (.reg [⟨.bin .add (.s 10) (.c (.int .i64 1)), none⟩,
   ⟨.mv (.r 0), none⟩] [] [] [(10, 1, none)])))
def ir_ppo_lookl1 : C :=
 .seq (.reg [⟨.bin .lss (.s 14) (.c (.int .i64 3)), none⟩] [] [] [(15, 0, none)])
 (.seq (.cond (.s 15) (.skip)
  (.exit 2))
 (.seq (.block 3 (.seq (.seq (.reg [⟨.mv (.s 14), none⟩,
    ⟨.ixA 3 1 false (.s 13) (.s 14), none⟩,
    ⟨.mv (.r 0), none⟩,
    ⟨.mv (.r 1), none⟩] [] [] [(7, 2, none), (8, 3, none)])
  (.drop [15] []))
  (.seq (.reg [⟨.mv (.s 6), none⟩,
    ⟨.mv (.s 7), none⟩,
    ⟨.mv (.s 8), none⟩,
    ⟨.mv (.s 8), none⟩,
    ⟨.call .val n_deps_Address [(.r 3)], none⟩,
    ⟨.mv (.s 8), none⟩,
    ⟨.call .val n_deps_Data [(.r 5)], none⟩,
    ⟨.mv (.s 8), none⟩,
    ⟨.call .val n_deps_Course [(.r 7)], none⟩,
    ⟨.build [.nils, .nilp, .nilp, .nilp] [(0, 1, (.r 2)), (1, 1, (.r 4)), (2, 1, (.r 6)), (3, 1, (.r 8))], none⟩,
    ⟨.nilck (.r 0), none⟩,
    ⟨.off 1 (.r 10), none⟩,
    ⟨.iaA 3 4 (.r 11) (.r 1), none⟩,
    ⟨.store 0 4 (.r 12) (.r 9), none⟩] [] [] [])
  (.drop [7, 8] []))))
 (.reg [⟨.bin .add (.s 14) (.c (.int .i64 1)), none⟩,
   ⟨.mv (.r 0), none⟩] [] [] [(14, 1, none)])))
def ir_ppo_look : Vm.Fn := ⟨[0, 1, 2, 3, 4, 6, 7, 8, 9, 11, 12, 13, 21, 27, 28, 29], 1, 0, [.slot 2, .slot 3],
 .seq (.seq (.reg [⟨.lbox 0 5 (.s 0), none⟩,
   ⟨.mv (.c (.nilp)), none⟩,
   ⟨.mv (.c (.bool false)), none⟩] [(true, 0)] [] [(1, 0, some 1), (2, 1, none), (3, 2, none)])
 (.drop [0, 2, 3] []))
 (.seq (.reg [⟨.mv (.c (.int .i64 0)), none⟩] [] [] [(4, 0, none)])
 (.seq (.seq (.reg [⟨.off 1 (.s 1), none⟩,
   ⟨.load 0 true 3 (.r 0), none⟩,
   ⟨.mv (.c (.int .i64 0)), none⟩] [] [] [(9, 1, none), (10, 2, none)])
 (.block 0 (.loop ir_ppo_lookl0)))
 (.seq (.seq (.seq (.reg [⟨.mv (.s 4), none⟩,
   ⟨.bin .gtr (.r 0) (.c (.int .i64 512)), none⟩] [] [] [(12, 1, none)])
 (.drop [4, 9, 10, 11] []))
 (.cond (.s 12) (.seq (.seq (.reg [⟨.mv (.c (.nilp)), none⟩,
    ⟨.mv (.c (.bool false)), none⟩] [] [] [(2, 0, none), (3, 1, none)])
  (.drop [1, 12] [(true, 0)]))
  (.ret))
  (.skip)))
 (.seq (.seq (.reg [⟨.load 0 true 5 (.s 1), none⟩,
   ⟨.call .val n_cand_Events [(.r 0)], none⟩,
   ⟨.build [.nils, .nils, .nilp, .nilp, .nilp, .nils, .nilp, .nilp, .nilp, .nils, .nilp, .nilp, .nilp] [(0, 1, (.r 1))], none⟩,
   ⟨.hbox 13 (.r 2), none⟩,
   ⟨.mv (.r 3), none⟩] [] [] [(6, 4, none)])
 (.drop [12] []))
 (.seq (.seq (.seq (.reg [⟨.off 1 (.s 1), none⟩,
   ⟨.load 0 true 3 (.r 0), none⟩,
   ⟨.mv (.c (.int .i64 0)), none⟩] [] [] [(13, 1, none), (14, 2, none)])
 (.drop [1] [(true, 0)]))
 (.block 2 (.loop ir_ppo_lookl1)))
 (.seq (.seq (.reg [⟨.mv (.s 6), none⟩,
   ⟨.mv (.r 0), none⟩,
   ⟨.mv (.c (.bool true)), none⟩] [] [] [(2, 1, none), (3, 2, none)])
 (.drop [6, 13, 14, 15] []))
 (.ret)))))))⟩
/-- 22: undertow/rel.New -/
def h22 : Vm.Hint := ⟨[0, 2, 3, 9, 12, 13, 14], [], [], [[0], [0, 0, 0, 0, 0, 0], [0], [0, 0, 0], [0, 0], [0], [0, 0, 0, 0, 0, 0, 0, 0, 0, 0, 1, 0, 0, 0, 0], [0, 0], [0, 0]], [([1], []), ([], []), ([0, 3], []), ([3], []), ([], []), ([], []), ([6], []), ([], []), ([0, 2, 4, 5, 6], [])], []⟩
def ir_rel_Newl0 : C :=
 .seq (.reg [⟨.bin .lss (.s 5) (.s 4), none⟩] [] [] [(6, 0, none)])
 (.seq (.cond (.s 6) (.skip)
  (.exit 0))
 (.seq (.block 1 (.seq (.reg [⟨.mv (.s 2), none⟩,
    ⟨.mv (.s 2), none⟩,
    ⟨.nilck (.r 1), none⟩,
    ⟨.off 0 (.r 2), none⟩,
    ⟨.load 0 false 1 (.r 3), none⟩,
    ⟨.mv (.s 0), none⟩,
    ⟨.bin .add (.r 5) (.c (.int .i64 64)), none⟩,
    ⟨.bin .sub (.r 6) (.c (.int .i64 1)), none⟩,
    ⟨.bin .quo (.r 7) (.c (.int .i64 64)), none⟩,
    ⟨.mksl [.int .u64 0] 8 (.r 8) (.r 8), none⟩,
    ⟨.lit 1 1 [[.nils]] [(0, (.r 9))], none⟩,
    ⟨.app 0 1 24 (.r 4) (.r 10), none⟩,
    ⟨.nilck (.r 0), none⟩,
    ⟨.off 0 (.r 12), none⟩,
    ⟨.store 0 1 (.r 13) (.r 11), none⟩] [] [(4, 9)] [])
  (.drop [6] [])))
 (.reg [⟨.bin .add (.s 5) (.c (.int .i64 1)), none⟩,
   ⟨.mv (.r 0), none⟩] [] [] [(5, 1, none)])))
def ir_rel_New : Vm.Fn := ⟨[0, 2, 3, 9, 12, 13, 14], 0, 0, [.slot 1],
 .seq (.seq (.reg [⟨.mv (.c (.nilp)), none⟩] [] [] [(1, 0, none)])
 (.drop [1] []))
 (.seq (.seq (.reg [⟨.mv (.s 0), none⟩,
   ⟨.bin .lss (.r 0) (.c (.int .i64 0)), none⟩,
   ⟨.mv (.r 1), none⟩,
   ⟨.mv (.s 0), some (2, false)⟩,
   ⟨.bin .gtr (.r 3) (.c (.int .i64 512)), some (2, false)⟩,
   ⟨.pick (.r 2) (.c (.bool true)) (.r 4), none⟩] [] [] [(3, 5, none)])
 (.cond (.s 3) (.seq (.seq (.reg [⟨.mv (.c (.nilp)), none⟩] [] [] [(1, 0, none)])
  (.drop [0, 3] []))
  (.ret))
  (.skip)))
 (.seq (.seq (.reg [⟨.build [.nils] [], none⟩,
   ⟨.hbox 1 (.r 0), none⟩,
   ⟨.mv (.r 1), none⟩] [] [] [(2, 2, none)])
 (.drop [3] []))
 (.seq (.seq (.reg [⟨.mv (.s 0), none⟩,
   ⟨.mv (.c (.int .i64 0)), none⟩] [] [] [(4, 0, none), (5, 1, none)])
 (.block 0 (.loop ir_rel_Newl0)))
 (.seq (.seq (.reg [⟨.mv (.s 2), none⟩,
   ⟨.mv (.r 0), none⟩] [] [] [(1, 1, none)])
 (.drop [0, 2, 4, 5, 6] []))
 (.ret)))))⟩
/-- 23: undertow/ppo.rules -/
def h23 : Vm.Hint := ⟨[0], [0], [], [[1], [0, 0, 0, 0, 0, 0, 0, 0, 0, 0, 0, 0, 0, 0, 0]], [([], []), ([], [])], []⟩
def ir_ppo_rules : Vm.Fn := ⟨[0], 1, 0, [.cell 0 true 13],
 .seq (.reg [⟨.lalloc 0 [.nilf, .nilf, .nilf, .nilf, .nilf, .nilf, .nilf, .nilf, .nilf, .nilf, .nilf, .nilf, .nilf], none⟩] [(true, 0)] [] [(0, 0, some 1)])
 (.seq (.reg [⟨.build [.nilf] [(0, 1, (.c (.fn 33 [] [])))], none⟩,
   ⟨.build [.nilf] [(0, 1, (.c (.fn 34 [] [])))], none⟩,
   ⟨.build [.nilf] [(0, 1, (.c (.fn 35 [] [])))], none⟩,
   ⟨.build [.nilf] [(0, 1, (.c (.fn 36 [] [])))], none⟩,
   ⟨.build [.nilf] [(0, 1, (.c (.fn 37 [] [])))], none⟩,
   ⟨.build [.nilf] [(0, 1, (.c (.fn 38 [] [])))], none⟩,
   ⟨.build [.nilf] [(0, 1, (.c (.fn 39 [] [])))], none⟩,
   ⟨.build [.nilf] [(0, 1, (.c (.fn 41 [] [])))], none⟩,
   ⟨.build [.nilf] [(0, 1, (.c (.fn 42 [] [])))], none⟩,
   ⟨.build [.nilf] [(0, 1, (.c (.fn 45 [] [])))], none⟩,
   ⟨.build [.nilf] [(0, 1, (.c (.fn 47 [] [])))], none⟩,
   ⟨.build [.nilf] [(0, 1, (.c (.fn 49 [] [])))], none⟩,
   ⟨.build [.nilf] [(0, 1, (.c (.fn 50 [] [])))], none⟩,
   ⟨.build [.nilf, .nilf, .nilf, .nilf, .nilf, .nilf, .nilf, .nilf, .nilf, .nilf, .nilf, .nilf, .nilf] [(0, 1, (.r 0)), (1, 1, (.r 1)), (2, 1, (.r 2)), (3, 1, (.r 3)), (4, 1, (.r 4)), (5, 1, (.r 5)), (6, 1, (.r 6)), (7, 1, (.r 7)), (8, 1, (.r 8)), (9, 1, (.r 9)), (10, 1, (.r 10)), (11, 1, (.r 11)), (12, 1, (.r 12))], none⟩,
   ⟨.store 0 13 (.s 0) (.r 13), none⟩] [] [] [])
 (.ret))⟩
/-- 24: (*undertow/ppo.view).into -/
def h24 : Vm.Hint := ⟨[0, 1, 2, 6, 7, 12, 13, 14, 43, 50], [], [], [[0, 0, 0, 0, 0, 0], [0], [0, 0], [0, 0, 0], [0, 0, 0, 0, 0, 0, 0, 0, 0, 0, 0, 0, 0, 0, 0, 0, 0, 0, 0, 0, 0, 0, 0, 0, 0, 0], [0, 0, 0], [0, 0, 0, 0, 0], [0, 0, 0, 1], [0, 0]], [([], []), ([], []), ([7], []), ([], []), ([], []), ([9], []), ([8], []), ([9], []), ([3, 4, 8], [])], []⟩
def ir_ppo_view_intol0 : C :=
 .seq (.seq (.reg [⟨.mv (.s 4), none⟩,
   ⟨.mv (.s 0), none⟩,
   ⟨.nilck (.r 1), none⟩,
   ⟨.off 0 (.r 2), none⟩,
   ⟨.load 0 false 1 (.r 3), none⟩,
   ⟨.len 1 (.r 4), none⟩,
   ⟨.bin .lss (.r 0) (.r 5), none⟩,
   ⟨.mv (.r 6), none⟩,
   ⟨.mv (.s 0), some (7, true)⟩,
   ⟨.nilck (.r 8), some (7, true)⟩,
   ⟨.off 0 (.r 9), some (7, true)⟩,
   ⟨.load 0 false 1 (.r 10), some (7, true)⟩,
   ⟨.mv (.s 4), some (7, true)⟩,
   ⟨.iaS 33 (.r 11) (.r 12), some (7, true)⟩,
   ⟨.off 0 (.r 13), some (7, true)⟩,
   ⟨.load 0 false 1 (.r 14), some (7, true)⟩,
   ⟨.mv (.s 0), some (7, true)⟩,
   ⟨.nilck (.r 16), some (7, true)⟩,
   ⟨.off 0 (.r 17), some (7, true)⟩,
   ⟨.load 0 false 1 (.r 18), some (7, true)⟩,
   ⟨.mv (.s 3), some (7, true)⟩,
   ⟨.iaS 33 (.r 19) (.r 20), some (7, true)⟩,
   ⟨.off 0 (.r 21), some (7, true)⟩,
   ⟨.load 0 false 1 (.r 22), some (7, true)⟩,
   ⟨.bin .eql (.r 15) (.r 23), some (7, true)⟩,
   ⟨.pick (.r 7) (.r 24) (.c (.bool false)), none⟩] [] [(11, 19), (11, 21), (11, 23), (13, 19), (13, 21), (13, 23), (15, 19), (15, 21), (15, 23)] [(8, 25, none)])
 (.cond (.s 8) (.skip)
  (.exit 2)))
 (.seq (.block 3 (.seq (.seq (.reg [⟨.mv (.s 2), none⟩,
    ⟨.mv (.s 0), none⟩,
    ⟨.mv (.s 3), none⟩,
    ⟨.mv (.s 4), none⟩,
    ⟨.callv .val (.r 0) [(.r 1), (.r 2), (.r 3)], none⟩] [] [] [(9, 4, none)])
  (.drop [8] []))
  (.cond (.s 9) (.seq (.reg [⟨.mv (.s 1), none⟩,
     ⟨.mv (.s 3), none⟩,
     ⟨.mv (.s 4), none⟩,
     ⟨.call .heap n_rel_Rel_Add [(.r 0), (.r 1), (.r 2)], none⟩] [] [] [])
   (.drop [9] []))
   (.skip))))
 (.seq (.reg [⟨.mv (.s 4), none⟩,
   ⟨.bin .add (.r 0) (.c (.int .i64 1)), none⟩,
   ⟨.mv (.r 1), none⟩] [] [] [(4, 2, none)])
 (.drop [9] [])))
def ir_ppo_view_intol1 : C :=
 .seq (.reg [⟨.bin .lss (.s 6) (.s 5), none⟩] [] [] [(7, 0, none)])
 (.seq (.cond (.s 7) (.skip)
  (.exit 0))
 (.seq (.block 1 (.seq (.seq (.reg [⟨.mv (.s 6), none⟩,
    ⟨.mv (.r 0), none⟩] [] [] [(3, 1, none)])
  (.drop [7] []))
  (.seq (.reg [⟨.mv (.s 3), none⟩,
    ⟨.bin .add (.r 0) (.c (.int .i64 1)), none⟩,
    ⟨.mv (.r 1), none⟩] [] [] [(4, 2, none)])
  (.block 2 (.loop ir_ppo_view_intol0)))))
 (.seq (.reg [⟨.bin .add (.s 6) (.c (.int .i64 1)), none⟩,
   ⟨.mv (.r 0), none⟩] [] [] [(6, 1, none)])
 (.drop [3, 4, 8] []))))
def ir_ppo_view_into : Vm.Fn := ⟨[0, 1, 2, 6, 7, 12, 13, 14, 43, 50], 0, 0, [],
 .seq (.reg [⟨.mv (.s 0), none⟩,
   ⟨.nilck (.r 0), none⟩,
   ⟨.off 0 (.r 1), none⟩,
   ⟨.load 0 false 1 (.r 2), none⟩,
   ⟨.len 1 (.r 3), none⟩,
   ⟨.mv (.c (.int .i64 0)), none⟩] [] [] [(5, 4, none), (6, 5, none)])
 (.block 0 (.loop ir_ppo_view_intol1))⟩
/-- 25: (undertow/rel.row).each -/
def h25 : Vm.Hint := ⟨[0, 2, 3, 4, 5, 6, 7, 8, 9, 14], [], [3], [[0], [1], [0, 0, 0], [0], [0, 0, 0, 0, 0], [0, 0], [0, 0, 0, 0, 0], [0, 0, 0, 0, 0, 0, 1, 2, 0], [0, 0], [0, 0]], [([1], []), ([], []), ([0], []), ([], []), ([8], []), ([], []), ([], []), ([9], []), ([3, 4, 9], []), ([2, 5, 6, 7, 8], [(false, 0)])], []⟩
def ir_rel_row_eachl0 : C :=
 .seq (.seq (.reg [⟨.mv (.s 4), none⟩,
   ⟨.bin .neq (.r 0) (.c (.int .u64 0)), none⟩] [] [] [(9, 1, none)])
 (.cond (.s 9) (.skip)
  (.exit 2)))
 (.seq (.block 3 (.seq (.reg [⟨.mv (.s 2), none⟩,
    ⟨.mv (.s 3), none⟩,
    ⟨.bin .mul (.r 1) (.c (.int .i64 64)), none⟩,
    ⟨.mv (.s 4), none⟩,
    ⟨.call .val n_math_bits_TrailingZeros64 [(.r 3)], none⟩,
    ⟨.bin .add (.r 2) (.r 4), none⟩,
    ⟨.lit 1 1 [[.int .i64 0]] [(0, (.r 5))], none⟩,
    ⟨.app 2 1 8 (.r 0) (.r 6), none⟩,
    ⟨.mv (.r 7), none⟩] [] [] [(2, 8, some 0)])
  (.drop [9] [])))
 (.reg [⟨.mv (.s 4), none⟩,
   ⟨.mv (.s 4), none⟩,
   ⟨.bin .sub (.r 1) (.c (.int .u64 1)), none⟩,
   ⟨.bin .and (.r 0) (.r 2), none⟩,
   ⟨.mv (.r 3), none⟩] [] [] [(4, 4, none)]))
def ir_rel_row_eachl1 : C :=
 .seq (.reg [⟨.bin .lss (.s 7) (.s 6), none⟩] [] [] [(8, 0, none)])
 (.seq (.cond (.s 8) (.skip)
  (.exit 0))
 (.seq (.block 1 (.seq (.seq (.reg [⟨.mv (.s 7), none⟩,
    ⟨.iaS 1 (.s 5) (.s 7), none⟩,
    ⟨.load 0 false 1 (.r 1), none⟩,
    ⟨.mv (.r 0), none⟩,
    ⟨.mv (.r 2), none⟩] [] [] [(3, 3, none), (4, 4, none)])
  (.drop [8] []))
  (.block 2 (.loop ir_rel_row_eachl0))))
 (.seq (.reg [⟨.bin .add (.s 7) (.c (.int .i64 1)), none⟩,
   ⟨.mv (.r 0), none⟩] [] [] [(7, 1, none)])
 (.drop [3, 4, 9] []))))
def ir_rel_row_each : Vm.Fn := ⟨[0, 2, 3, 4, 5, 6, 7, 8, 9, 14], 0, 1, [.slot 1],
 .seq (.seq (.reg [⟨.mv (.c (.nils)), none⟩] [] [] [(1, 0, none)])
 (.drop [1] []))
 (.seq (.reg [⟨.onil 0, none⟩] [(false, 0)] [] [(2, 0, some 0)])
 (.seq (.seq (.seq (.reg [⟨.mv (.s 0), none⟩,
   ⟨.len 1 (.r 0), none⟩,
   ⟨.mv (.c (.int .i64 0)), none⟩] [] [] [(5, 0, none), (6, 1, none), (7, 2, none)])
 (.drop [0] []))
 (.block 0 (.loop ir_rel_row_eachl1)))
 (.seq (.seq (.reg [⟨.mv (.s 2), none⟩,
   ⟨.mv (.r 0), none⟩] [] [] [(1, 1, none)])
 (.drop [2, 5, 6, 7, 8] [(false, 0)]))
 (.ret))))⟩
/-- 26: (*undertow/rel.Rel).is -/
def h26 : Vm.Hint := ⟨[0, 1, 4], [], [], [[0], [0, 0, 0, 0, 0, 0, 0, 0, 0]], [([2], []), ([0, 1], [])], []⟩
def ir_rel_Rel_is : Vm.Fn := ⟨[0, 1, 4], 0, 0, [.slot 2],
 .seq (.seq (.reg [⟨.mv (.c (.bool false)), none⟩] [] [] [(2, 0, none)])
 (.drop [2] []))
 (.seq (.seq (.reg [⟨.mv (.s 1), none⟩,
   ⟨.bin .geq (.r 0) (.c (.int .i64 0)), none⟩,
   ⟨.mv (.r 1), none⟩,
   ⟨.mv (.s 1), some (2, true)⟩,
   ⟨.mv (.s 0), some (2, true)⟩,
   ⟨.call .val n_rel_Rel_Len [(.r 4)], some (2, true)⟩,
   ⟨.bin .lss (.r 3) (.r 5), some (2, true)⟩,
   ⟨.pick (.r 2) (.r 6) (.c (.bool false)), none⟩,
   ⟨.mv (.r 7), none⟩] [] [] [(2, 8, none)])
 (.drop [0, 1] []))
 (.ret))⟩
/-- 27: (undertow/rel.row).has -/
def h27 : Vm.Hint := ⟨[0, 1, 4], [], [], [[0], [0, 0, 0, 0, 0, 0, 0, 0, 0, 0, 0]], [([2], []), ([0, 1], [])], []⟩
def ir_rel_row_has : Vm.Fn := ⟨[0, 1, 4], 0, 0, [.slot 2],
 .seq (.seq (.reg [⟨.mv (.c (.bool false)), none⟩] [] [] [(2, 0, none)])
 (.drop [2] []))
 (.seq (.seq (.reg [⟨.mv (.s 0), none⟩,
   ⟨.mv (.s 1), none⟩,
   ⟨.bin .quo (.r 1) (.c (.int .i64 64)), none⟩,
   ⟨.iaS 1 (.r 0) (.r 2), none⟩,
   ⟨.load 0 false 1 (.r 3), none⟩,
   ⟨.mv (.s 1), none⟩,
   ⟨.bin .rem (.r 5) (.c (.int .i64 64)), none⟩,
   ⟨.bin .shr (.r 4) (.r 6), none⟩,
   ⟨.bin .and (.r 7) (.c (.int .u64 1)), none⟩,
   ⟨.bin .eql (.r 8) (.c (.int .u64 1)), none⟩,
   ⟨.mv (.r 9), none⟩] [] [] [(2, 10, none)])
 (.drop [0, 1] []))
 (.ret))⟩
/-- 28: undertow/ops.Memory -/
def h28 : Vm.Hint := ⟨[0, 2], [], [], [[0], [0, 0, 0, 0]], [([1], []), ([0], [])], []⟩
def ir_ops_Memory : Vm.Fn := ⟨[0, 2], 0, 0, [.slot 1],
 .seq (.seq (.reg [⟨.mv (.c (.bool false)), none⟩] [] [] [(1, 0, none)])
 (.drop [1] []))
 (.seq (.seq (.reg [⟨.mv (.s 0), none⟩,
   ⟨.call .val n_ops_Size [(.r 0)], none⟩,
   ⟨.bin .gtr (.r 1) (.c (.int .i64 0)), none⟩,
   ⟨.mv (.r 2), none⟩] [] [] [(1, 3, none)])
 (.drop [0] []))
 (.ret))⟩
/-- 29: undertow/ops.Sort -/
def h29 : Vm.Hint := ⟨[0, 2, 3, 10, 13, 16, 19, 22, 25, 28, 31, 34, 37, 40], [], [], [[0], [0, 0, 0, 0, 0, 0, 0], [0], [0, 0, 0], [0], [0, 0, 0], [0], [0, 0, 0], [0], [0, 0, 0], [0], [0, 0, 0], [0], [0, 0, 0], [0], [0, 0, 0], [0], [0, 0, 0], [0], [0, 0, 0], [0], [0, 0, 0], [0], [0, 0, 0], [0], [0]], [], []⟩
def ir_ops_Sort : Vm.Fn := ⟨[0, 2, 3, 10, 13, 16, 19, 22, 25, 28, 31, 34, 37, 40], 0, 0, [.slot 1],
 .seq (.reg [⟨.mv (.c (.int .i64 0)), none⟩] [] [] [(1, 0, none)])
 (.seq (.block 0 (.seq (.reg [⟨.mv (.s 0), none⟩,
    ⟨.bin .lss (.r 0) (.c (.int .i64 1)), none⟩,
    ⟨.mv (.r 1), none⟩,
    ⟨.mv (.s 0), some (2, false)⟩,
    ⟨.bin .gtr (.r 3) (.c (.int .i64 75)), some (2, false)⟩,
    ⟨.pick (.r 2) (.c (.bool true)) (.r 4), none⟩,
    ⟨.mv (.r 5), none⟩] [] [] [(2, 6, none)])
  (.cond (.s 2) (.seq (.reg [⟨.mv (.c (.int .i64 0)), none⟩] [] [] [(1, 0, none)])
   (.ret))
   (.seq (.reg [⟨.mv (.s 0), none⟩,
     ⟨.bin .leq (.r 0) (.c (.int .i64 2)), none⟩,
     ⟨.mv (.r 1), none⟩] [] [] [(3, 2, none)])
   (.cond (.s 3) (.seq (.reg [⟨.mv (.c (.int .i64 1)), none⟩] [] [] [(1, 0, none)])
    (.ret))
    (.seq (.reg [⟨.mv (.s 0), none⟩,
      ⟨.bin .leq (.r 0) (.c (.int .i64 4)), none⟩,
      ⟨.mv (.r 1), none⟩] [] [] [(4, 2, none)])
    (.cond (.s 4) (.seq (.reg [⟨.mv (.c (.int .i64 2)), none⟩] [] [] [(1, 0, none)])
     (.ret))
     (.seq (.reg [⟨.mv (.s 0), none⟩,
       ⟨.bin .leq (.r 0) (.c (.int .i64 10)), none⟩,
       ⟨.mv (.r 1), none⟩] [] [] [(5, 2, none)])
     (.cond (.s 5) (.seq (.reg [⟨.mv (.c (.int .i64 3)), none⟩] [] [] [(1, 0, none)])
      (.ret))
      (.seq (.reg [⟨.mv (.s 0), none⟩,
        ⟨.bin .leq (.r 0) (.c (.int .i64 17)), none⟩,
        ⟨.mv (.r 1), none⟩] [] [] [(6, 2, none)])
      (.cond (.s 6) (.seq (.reg [⟨.mv (.c (.int .i64 4)), none⟩] [] [] [(1, 0, none)])
       (.ret))
       (.seq (.reg [⟨.mv (.s 0), none⟩,
         ⟨.bin .leq (.r 0) (.c (.int .i64 21)), none⟩,
         ⟨.mv (.r 1), none⟩] [] [] [(7, 2, none)])
       (.cond (.s 7) (.seq (.reg [⟨.mv (.c (.int .i64 5)), none⟩] [] [] [(1, 0, none)])
        (.ret))
        (.seq (.reg [⟨.mv (.s 0), none⟩,
          ⟨.bin .leq (.r 0) (.c (.int .i64 34)), none⟩,
          ⟨.mv (.r 1), none⟩] [] [] [(8, 2, none)])
        (.cond (.s 8) (.seq (.reg [⟨.mv (.c (.int .i64 6)), none⟩] [] [] [(1, 0, none)])
         (.ret))
         (.seq (.reg [⟨.mv (.s 0), none⟩,
           ⟨.bin .leq (.r 0) (.c (.int .i64 49)), none⟩,
           ⟨.mv (.r 1), none⟩] [] [] [(9, 2, none)])
         (.cond (.s 9) (.seq (.reg [⟨.mv (.c (.int .i64 7)), none⟩] [] [] [(1, 0, none)])
          (.ret))
          (.seq (.reg [⟨.mv (.s 0), none⟩,
            ⟨.bin .leq (.r 0) (.c (.int .i64 51)), none⟩,
            ⟨.mv (.r 1), none⟩] [] [] [(10, 2, none)])
          (.cond (.s 10) (.seq (.reg [⟨.mv (.c (.int .i64 8)), none⟩] [] [] [(1, 0, none)])
           (.ret))
           (.seq (.reg [⟨.mv (.s 0), none⟩,
             ⟨.bin .leq (.r 0) (.c (.int .i64 53)), none⟩,
             ⟨.mv (.r 1), none⟩] [] [] [(11, 2, none)])
           (.cond (.s 11) (.seq (.reg [⟨.mv (.c (.int .i64 9)), none⟩] [] [] [(1, 0, none)])
            (.ret))
            (.seq (.reg [⟨.mv (.s 0), none⟩,
              ⟨.bin .leq (.r 0) (.c (.int .i64 55)), none⟩,
              ⟨.mv (.r 1), none⟩] [] [] [(12, 2, none)])
            (.cond (.s 12) (.seq (.reg [⟨.mv (.c (.int .i64 10)), none⟩] [] [] [(1, 0, none)])
             (.ret))
             (.seq (.reg [⟨.mv (.s 0), none⟩,
               ⟨.bin .leq (.r 0) (.c (.int .i64 57)), none⟩,
               ⟨.mv (.r 1), none⟩] [] [] [(13, 2, none)])
             (.cond (.s 13) (.seq (.reg [⟨.mv (.c (.int .i64 11)), none⟩] [] [] [(1, 0, none)])
              (.ret))
              (.skip))))))))))))))))))))))))))
 (.seq (.reg [⟨.mv (.c (.int .i64 12)), none⟩] [] [] [(1, 0, none)])
 (.ret)))⟩
/-- 30: undertow/deps.Address -/
def h30 : Vm.Hint := ⟨[0, 2], [], [], [[0], [0, 1, 0]], [([1], []), ([0], [])], []⟩
def ir_deps_Address : Vm.Fn := ⟨[0, 2], 0, 0, [.slot 1],
 .seq (.seq (.reg [⟨.mv (.c (.nilp)), none⟩] [] [] [(1, 0, none)])
 (.drop [1] []))
 (.seq (.seq (.reg [⟨.mv (.s 0), none⟩,
   ⟨.call .heap n_deps_along [(.r 0), (.c (.fn 54 [] []))], none⟩,
   ⟨.mv (.r 1), none⟩] [] [] [(1, 2, none)])
 (.drop [0] []))
 (.ret))⟩
/-- 31: undertow/deps.Data -/
def h31 : Vm.Hint := ⟨[0, 2], [], [], [[0], [0, 1, 0]], [([1], []), ([0], [])], []⟩
def ir_deps_Data : Vm.Fn := ⟨[0, 2], 0, 0, [.slot 1],
 .seq (.seq (.reg [⟨.mv (.c (.nilp)), none⟩] [] [] [(1, 0, none)])
 (.drop [1] []))
 (.seq (.seq (.reg [⟨.mv (.s 0), none⟩,
   ⟨.call .heap n_deps_along [(.r 0), (.c (.fn 57 [] []))], none⟩,
   ⟨.mv (.r 1), none⟩] [] [] [(1, 2, none)])
 (.drop [0] []))
 (.ret))⟩
/-- 32: undertow/deps.Course -/
def h32 : Vm.Hint := ⟨[0, 2, 3], [], [], [[0], [0], [0, 0, 1, 0]], [([1], []), ([], []), ([0, 2], [])], []⟩
def ir_deps_Course : Vm.Fn := ⟨[0, 2, 3], 0, 0, [.slot 1],
 .seq (.seq (.reg [⟨.mv (.c (.nilp)), none⟩] [] [] [(1, 0, none)])
 (.drop [1] []))
 (.seq (.reg [⟨.halloc [.int .u64 0, .int .u64 0, .int .u64 0, .int .u64 0, .int .u64 0, .int .u64 0, .int .u64 0, .int .u64 0], none⟩] [] [] [(2, 0, none)])
 (.seq (.seq (.reg [⟨.mv (.s 0), none⟩,
   ⟨.mkfn 59 [] [(.s 2)], none⟩,
   ⟨.call .heap n_deps_along [(.r 0), (.r 1)], none⟩,
   ⟨.mv (.r 2), none⟩] [] [] [(1, 3, none)])
 (.drop [0, 2] []))
 (.ret)))⟩
/-- 33: (*undertow/ppo.view).same -/
def h33 : Vm.Hint := ⟨[0, 1, 2, 6], [], [], [[0], [0, 0, 0, 0, 0, 0, 0, 0, 0, 0, 0, 0, 0, 0, 0, 0, 0, 0, 0, 0, 0, 0, 0, 0, 0, 0]], [([3], []), ([0, 1, 2], [])], []⟩
def ir_ppo_view_same : Vm.Fn := ⟨[0, 1, 2, 6], 0, 0, [.slot 3],
 .seq (.seq (.reg [⟨.mv (.c (.bool false)), none⟩] [] [] [(3, 0, none)])
 (.drop [3] []))
 (.seq (.seq (.reg [⟨.mv (.s 0), none⟩,
   ⟨.nilck (.r 0), none⟩,
   ⟨.off 0 (.r 1), none⟩,
   ⟨.load 0 false 1 (.r 2), none⟩,
   ⟨.mv (.s 2), none⟩,
   ⟨.iaS 33 (.r 3) (.r 4), none⟩,
   ⟨.off 30 (.r 5), none⟩,
   ⟨.load 0 false 1 (.r 6), none⟩,
   ⟨.mv (.r 7), none⟩,
   ⟨.mv (.s 0), some (8, true)⟩,
   ⟨.nilck (.r 9), some (8, true)⟩,
   ⟨.off 0 (.r 10), some (8, true)⟩,
   ⟨.load 0 false 1 (.r 11), some (8, true)⟩,
   ⟨.mv (.s 1), some (8, true)⟩,
   ⟨.iaS 33 (.r 12) (.r 13), some (8, true)⟩,
   ⟨.load 0 true 33 (.r 14), some (8, true)⟩,
   ⟨.mv (.s 0), some (8, true)⟩,
   ⟨.nilck (.r 16), some (8, true)⟩,
   ⟨.off 0 (.r 17), some (8, true)⟩,
   ⟨.load 0 false 1 (.r 18), some (8, true)⟩,
   ⟨.mv (.s 2), some (8, true)⟩,
   ⟨.iaS 33 (.r 19) (.r 20), some (8, true)⟩,
   ⟨.load 0 true 33 (.r 21), some (8, true)⟩,
   ⟨.call .val n_ppo_overlap [(.r 15), (.r 22)], some (8, true)⟩,
   ⟨.pick (.r 8) (.r 23) (.c (.bool false)), none⟩,
   ⟨.mv (.r 24), none⟩] [] [(12, 19), (12, 21), (12, 22), (14, 19), (14, 21), (14, 22), (15, 19), (15, 21), (15, 22)] [(3, 25, none)])
 (.drop [0, 1, 2] []))
 (.ret))⟩
/-- 34: (*undertow/ppo.view).loads -/
def h34 : Vm.Hint := ⟨[0, 1, 2, 6, 7, 8, 9, 10, 12, 40, 42, 43, 44, 69, 73, 74, 75, 76, 85], [7, 8, 12], [], [[0], [0, 0, 0, 0, 0, 0, 0, 0, 0, 0, 0, 0, 0, 0, 1, 2, 0, 0], [0, 0, 0, 0, 0, 0, 0, 0, 0, 0, 0, 0, 0, 0], [0], [0, 0, 0], [0], [0, 0], [0, 0, 0, 0, 0], [0, 0, 0, 0, 0, 0, 0, 0, 0, 0, 0, 0, 0, 0, 0, 0, 0, 0, 0, 0], [0, 0, 0, 0, 0, 0], [0], [0, 0, 3, 0], [0, 0, 0, 0, 0, 0, 0], [0, 0], [0], [0, 0], [0]], [([3], []), ([], []), ([], []), ([0, 1, 2, 4, 5, 9], [(true, 0), (true, 1)]), ([9], []), ([], []), ([12], []), ([], []), ([6], []), ([13], []), ([], []), ([17], []), ([8], [(true, 2)]), ([18], []), ([0, 1, 2, 4, 5, 7, 10, 11, 14, 15, 16, 17], [(true, 0), (true, 1)]), ([7, 13, 14, 15, 16, 18], []), ([0, 1, 2, 4, 5, 10, 11, 12], [(true, 0), (true, 1)])], []⟩
def ir_ppo_view_loadsl0 : C :=
 .seq (.reg [⟨.bin .lss (.s 16) (.s 15), none⟩] [] [] [(17, 0, none)])
 (.seq (.cond (.s 17) (.skip)
  (.exit 2))
 (.seq (.block 3 (.seq (.seq (.reg [⟨.iaS 33 (.s 14) (.s 16), none⟩,
    ⟨.load 0 true 33 (.r 0), none⟩,
    ⟨.lalloc 2 [.int .i64 0, .int .i64 0, .int .u64 0, .int .i64 0, .int .i64 0, .int .i64 0, .int .i64 0, .int .i64 0, .bool false, .bool false, .int .i64 0, .int .i64 0, .int .i64 0, .int .u64 0, .int .u64 0, .int .u64 0, .int .u64 0, .bool false, .int .i64 0, .flt 0, .int .i64 0, .int .i64 0, .int .i64 0, .int .i64 0, .int .i64 0, .int .i64 0, .int .i64 0, .int .i64 0, .int .i64 0, .bool false, .bool false, .int .i64 0, .int .i64 0], none⟩,
    ⟨.store 0 33 (.r 2) (.r 1), none⟩] [(true, 2)] [] [(8, 2, some 5)])
  (.drop [17] []))
  (.seq (.seq (.reg [⟨.off 30 (.s 8), none⟩,
    ⟨.load 0 false 1 (.r 0), none⟩,
    ⟨.mv (.r 1), none⟩,
    ⟨.load 0 true 33 (.s 8), some (2, true)⟩,
    ⟨.mv (.s 7), some (2, true)⟩,
    ⟨.call .val n_ppo_has [(.r 3), (.r 4)], some (2, true)⟩,
    ⟨.pick (.r 2) (.r 5) (.c (.bool false)), none⟩] [] [] [(18, 6, none)])
  (.drop [8] [(true, 2)]))
  (.cond (.s 18) (.exit 1)
   (.skip)))))
 (.seq (.reg [⟨.bin .add (.s 16) (.c (.int .i64 1)), none⟩,
   ⟨.mv (.r 0), none⟩] [] [] [(16, 1, none)])
 (.drop [18] []))))
def ir_ppo_view_loadsl1 : C :=
 .seq (.reg [⟨.bin .lss (.s 11) (.s 10), none⟩] [] [] [(12, 0, none)])
 (.seq (.cond (.s 12) (.skip)
  (.exit 0))
 (.seq (.block 1 (.seq (.seq (.reg [⟨.mv (.s 11), none⟩,
    ⟨.mv (.r 0), none⟩] [] [] [(6, 1, none)])
  (.drop [12] []))
  (.seq (.reg [⟨.off 31 (.s 4), none⟩,
    ⟨.load 0 false 1 (.r 0), none⟩,
    ⟨.mv (.s 6), none⟩,
    ⟨.bin .add (.r 1) (.r 2), none⟩,
    ⟨.mv (.r 3), none⟩] [] [] [(7, 4, none)])
  (.seq (.seq (.seq (.reg [⟨.load 0 true 33 (.s 5), none⟩,
    ⟨.mv (.s 7), none⟩,
    ⟨.call .val n_ppo_has [(.r 0), (.r 1)], none⟩,
    ⟨.un .not (.r 2), none⟩,
    ⟨.mv (.r 3), none⟩,
    ⟨.mv (.s 6), some (4, false)⟩,
    ⟨.off 2 (.s 4), some (4, false)⟩,
    ⟨.off 18 (.r 6), some (4, false)⟩,
    ⟨.iaA 8 1 (.r 7) (.r 5), some (4, false)⟩,
    ⟨.load 0 false 1 (.r 8), some (4, false)⟩,
    ⟨.mv (.s 7), some (4, false)⟩,
    ⟨.off 31 (.s 5), some (4, false)⟩,
    ⟨.load 0 false 1 (.r 11), some (4, false)⟩,
    ⟨.bin .sub (.r 10) (.r 12), some (4, false)⟩,
    ⟨.off 2 (.s 5), some (4, false)⟩,
    ⟨.off 18 (.r 14), some (4, false)⟩,
    ⟨.iaA 8 1 (.r 15) (.r 13), some (4, false)⟩,
    ⟨.load 0 false 1 (.r 16), some (4, false)⟩,
    ⟨.bin .eql (.r 9) (.r 17), some (4, false)⟩,
    ⟨.pick (.r 4) (.c (.bool true)) (.r 18), none⟩] [] [(9, 12), (9, 17)] [(13, 19, none)])
  (.drop [6] []))
  (.cond (.s 13) (.exit 1)
   (.skip)))
  (.seq (.seq (.seq (.reg [⟨.mv (.s 0), none⟩,
    ⟨.mv (.s 1), none⟩,
    ⟨.mv (.s 2), none⟩,
    ⟨.call .val n_ppo_view_between [(.r 0), (.r 1), (.r 2)], none⟩,
    ⟨.len 1 (.r 3), none⟩,
    ⟨.mv (.c (.int .i64 0)), none⟩] [] [] [(14, 3, none), (15, 4, none), (16, 5, none)])
  (.drop [13] []))
  (.block 2 (.loop ir_ppo_view_loadsl0)))
  (.seq (.seq (.reg [⟨.mv (.c (.bool true)), none⟩] [] [] [(3, 0, none)])
  (.drop [0, 1, 2, 4, 5, 7, 10, 11, 14, 15, 16, 17] [(true, 0), (true, 1)]))
  (.ret)))))))
 (.seq (.reg [⟨.bin .add (.s 11) (.c (.int .i64 1)), none⟩,
   ⟨.mv (.r 0), none⟩] [] [] [(11, 1, none)])
 (.drop [7, 13, 14, 15, 16, 18] []))))
def ir_ppo_view_loads : Vm.Fn := ⟨[0, 1, 2, 6, 7, 8, 9, 10, 12, 40, 42, 43, 44, 69, 73, 74, 75, 76, 85], 3, 0, [.slot 3],
 .seq (.seq (.reg [⟨.mv (.c (.bool false)), none⟩] [] [] [(3, 0, none)])
 (.drop [3] []))
 (.seq (.reg [⟨.mv (.s 0), none⟩,
   ⟨.nilck (.r 0), none⟩,
   ⟨.off 0 (.r 1), none⟩,
   ⟨.load 0 false 1 (.r 2), none⟩,
   ⟨.mv (.s 1), none⟩,
   ⟨.iaS 33 (.r 3) (.r 4), none⟩,
   ⟨.load 0 true 33 (.r 5), none⟩,
   ⟨.mv (.s 0), none⟩,
   ⟨.nilck (.r 7), none⟩,
   ⟨.off 0 (.r 8), none⟩,
   ⟨.load 0 false 1 (.r 9), none⟩,
   ⟨.mv (.s 2), none⟩,
   ⟨.iaS 33 (.r 10) (.r 11), none⟩,
   ⟨.load 0 true 33 (.r 12), none⟩,
   ⟨.lalloc 0 [.int .i64 0, .int .i64 0, .int .u64 0, .int .i64 0, .int .i64 0, .int .i64 0, .int .i64 0, .int .i64 0, .bool false, .bool false, .int .i64 0, .int .i64 0, .int .i64 0, .int .u64 0, .int .u64 0, .int .u64 0, .int .u64 0, .bool false, .int .i64 0, .flt 0, .int .i64 0, .int .i64 0, .int .i64 0, .int .i64 0, .int .i64 0, .int .i64 0, .int .i64 0, .int .i64 0, .int .i64 0, .bool false, .bool false, .int .i64 0, .int .i64 0], none⟩,
   ⟨.lalloc 1 [.int .i64 0, .int .i64 0, .int .u64 0, .int .i64 0, .int .i64 0, .int .i64 0, .int .i64 0, .int .i64 0, .bool false, .bool false, .int .i64 0, .int .i64 0, .int .i64 0, .int .u64 0, .int .u64 0, .int .u64 0, .int .u64 0, .bool false, .int .i64 0, .flt 0, .int .i64 0, .int .i64 0, .int .i64 0, .int .i64 0, .int .i64 0, .int .i64 0, .int .i64 0, .int .i64 0, .int .i64 0, .bool false, .bool false, .int .i64 0, .int .i64 0], none⟩,
   ⟨.store 0 33 (.r 14) (.r 6), none⟩,
   ⟨.store 0 33 (.r 15) (.r 13), none⟩] [(true, 0), (true, 1)] [(3, 10), (3, 12), (3, 13), (3, 14), (3, 15), (5, 10), (5, 12), (5, 13), (5, 14), (5, 15), (6, 10), (6, 12), (6, 13), (6, 14), (6, 15), (10, 14), (10, 15), (10, 16), (12, 14), (12, 15), (12, 16), (13, 14), (13, 15), (13, 16), (14, 15)] [(4, 14, some 1), (5, 15, some 3)])
 (.seq (.seq (.reg [⟨.off 29 (.s 4), none⟩,
   ⟨.load 0 false 1 (.r 0), none⟩,
   ⟨.un .not (.r 1), none⟩,
   ⟨.mv (.r 2), none⟩,
   ⟨.off 29 (.s 5), some (3, false)⟩,
   ⟨.load 0 false 1 (.r 4), some (3, false)⟩,
   ⟨.un .not (.r 5), some (3, false)⟩,
   ⟨.pick (.r 3) (.c (.bool true)) (.r 6), none⟩,
   ⟨.mv (.r 7), none⟩,
   ⟨.load 0 true 33 (.s 4), some (8, false)⟩,
   ⟨.load 0 true 33 (.s 5), some (8, false)⟩,
   ⟨.call .val n_ppo_overlap [(.r 9), (.r 10)], some (8, false)⟩,
   ⟨.un .not (.r 11), some (8, false)⟩,
   ⟨.pick (.r 8) (.c (.bool true)) (.r 12), none⟩] [] [] [(9, 13, none)])
 (.cond (.s 9) (.seq (.seq (.reg [⟨.mv (.c (.bool false)), none⟩] [] [] [(3, 0, none)])
  (.drop [0, 1, 2, 4, 5, 9] [(true, 0), (true, 1)]))
  (.ret))
  (.skip)))
 (.seq (.seq (.seq (.reg [⟨.off 32 (.s 4), none⟩,
   ⟨.load 0 false 1 (.r 0), none⟩,
   ⟨.mv (.c (.int .i64 0)), none⟩] [] [] [(10, 1, none), (11, 2, none)])
 (.drop [9] []))
 (.block 0 (.loop ir_ppo_view_loadsl1)))
 (.seq (.seq (.reg [⟨.mv (.c (.bool false)), none⟩] [] [] [(3, 0, none)])
 (.drop [0, 1, 2, 4, 5, 10, 11, 12] [(true, 0), (true, 1)]))
 (.ret)))))⟩
/-- 35: (*undertow/ppo.view).written -/
def h35 : Vm.Hint := ⟨[0, 1, 2, 6, 18, 19], [], [], [[0], [0, 0, 0, 0, 0, 0, 0, 0, 0, 0, 0, 0], [0, 0], [0, 0], [0, 0, 0, 0, 0, 0, 0, 0, 0, 0, 0, 0, 0, 0, 0, 0, 0, 0], [0]], [([3], []), ([], []), ([], []), ([4], []), ([0, 1, 2, 4, 5], []), ([0, 1, 2, 4, 5], [])], []⟩
def ir_ppo_view_written : Vm.Fn := ⟨[0, 1, 2, 6, 18, 19], 0, 0, [.slot 3],
 .seq (.seq (.reg [⟨.mv (.c (.bool false)), none⟩] [] [] [(3, 0, none)])
 (.drop [3] []))
 (.seq (.seq (.reg [⟨.mv (.s 0), none⟩,
   ⟨.nilck (.r 0), none⟩,
   ⟨.off 0 (.r 1), none⟩,
   ⟨.load 0 false 1 (.r 2), none⟩,
   ⟨.mv (.s 1), none⟩,
   ⟨.iaS 33 (.r 3) (.r 4), none⟩,
   ⟨.off 2 (.r 5), none⟩,
   ⟨.off 0 (.r 6), none⟩,
   ⟨.off 1 (.r 7), none⟩,
   ⟨.off 0 (.r 8), none⟩,
   ⟨.load 0 false 1 (.r 9), none⟩,
   ⟨.call .val n_ops_Sort [(.r 10)], none⟩] [] [] [(4, 11, none)])
 (.block 0 (.seq (.seq (.reg [⟨.bin .eql (.s 4) (.c (.int .i64 11)), none⟩,
    ⟨.mv (.r 0), none⟩] [] [] [(5, 1, none)])
  (.cond (.s 5) (.skip)
   (.seq (.reg [⟨.bin .eql (.s 4) (.c (.int .i64 12)), none⟩,
     ⟨.mv (.r 0), none⟩] [] [] [(5, 1, none)])
   (.drop [4] []))))
  (.cond (.s 5) (.seq (.seq (.reg [⟨.mv (.s 0), none⟩,
     ⟨.nilck (.r 0), none⟩,
     ⟨.off 0 (.r 1), none⟩,
     ⟨.load 0 false 1 (.r 2), none⟩,
     ⟨.mv (.s 2), none⟩,
     ⟨.iaS 33 (.r 3) (.r 4), none⟩,
     ⟨.load 0 true 33 (.r 5), none⟩,
     ⟨.mv (.s 0), none⟩,
     ⟨.nilck (.r 7), none⟩,
     ⟨.off 0 (.r 8), none⟩,
     ⟨.load 0 false 1 (.r 9), none⟩,
     ⟨.mv (.s 1), none⟩,
     ⟨.iaS 33 (.r 10) (.r 11), none⟩,
     ⟨.off 2 (.r 12), none⟩,
     ⟨.off 16 (.r 13), none⟩,
     ⟨.load 0 false 1 (.r 14), none⟩,
     ⟨.call .val n_ppo_returns [(.r 6), (.r 15)], none⟩,
     ⟨.mv (.r 16), none⟩] [] [(3, 10), (3, 12), (3, 15), (5, 10), (5, 12), (5, 15), (6, 10), (6, 12), (6, 15)] [(3, 17, none)])
   (.drop [0, 1, 2, 4, 5] []))
   (.ret))
   (.skip)))))
 (.seq (.seq (.reg [⟨.mv (.c (.bool false)), none⟩] [] [] [(3, 0, none)])
 (.drop [0, 1, 2, 4, 5] []))
 (.ret)))⟩
/-- 36: (*undertow/ppo.view).fenced -/
def h36 : Vm.Hint := ⟨[0, 1, 2, 6, 7, 8, 10, 38, 39, 40, 41, 63], [7, 8, 10], [], [[0], [0, 0, 0, 0, 0, 0, 0, 0, 0, 0, 0, 0, 0, 0, 1, 2, 0, 0], [0, 0, 0, 0, 0, 0, 0, 0, 0, 0, 0, 0, 0, 0, 0, 0], [0], [0, 0, 3, 0], [0, 0, 0, 0, 0, 0, 0, 0, 0, 0, 0, 0, 0, 0, 0, 0, 0, 0, 0, 0], [0], [0, 0], [0]], [([3], []), ([1, 2], []), ([0], []), ([], []), ([10], []), ([6], [(true, 2)]), ([4, 5, 7, 8, 9, 11], [(true, 0), (true, 1)]), ([11], []), ([4, 5, 7, 8, 9, 10], [(true, 0), (true, 1)])], []⟩
def ir_ppo_view_fencedl0 : C :=
 .seq (.reg [⟨.bin .lss (.s 9) (.s 8), none⟩] [] [] [(10, 0, none)])
 (.seq (.cond (.s 10) (.skip)
  (.exit 0))
 (.seq (.block 1 (.seq (.seq (.reg [⟨.iaS 27 (.s 7) (.s 9), none⟩,
    ⟨.load 0 true 27 (.r 0), none⟩,
    ⟨.lalloc 2 [.int .u64 0, .int .i64 0, .int .i64 0, .int .i64 0, .int .i64 0, .int .i64 0, .bool false, .bool false, .int .i64 0, .int .i64 0, .int .i64 0, .int .u64 0, .int .u64 0, .int .u64 0, .int .u64 0, .bool false, .int .i64 0, .flt 0, .int .i64 0, .int .i64 0, .int .i64 0, .int .i64 0, .int .i64 0, .int .i64 0, .int .i64 0, .int .i64 0, .int .i64 0], none⟩,
    ⟨.store 0 27 (.r 2) (.r 1), none⟩] [(true, 2)] [] [(6, 2, some 5)])
  (.drop [10] []))
  (.seq (.seq (.reg [⟨.off 0 (.s 6), none⟩,
    ⟨.off 1 (.r 0), none⟩,
    ⟨.off 0 (.r 1), none⟩,
    ⟨.load 0 false 1 (.r 2), none⟩,
    ⟨.call .val n_ops_Sort [(.r 3)], none⟩,
    ⟨.bin .eql (.r 4) (.c (.int .i64 8)), none⟩,
    ⟨.mv (.r 5), none⟩,
    ⟨.off 0 (.s 6), some (6, true)⟩,
    ⟨.off 10 (.r 7), some (6, true)⟩,
    ⟨.load 0 false 1 (.r 8), some (6, true)⟩,
    ⟨.bin .eql (.r 9) (.c (.int .i64 0)), some (6, true)⟩,
    ⟨.pick (.r 6) (.r 10) (.c (.bool false)), none⟩,
    ⟨.mv (.r 11), none⟩,
    ⟨.off 0 (.s 6), some (12, true)⟩,
    ⟨.off 1 (.r 13), some (12, true)⟩,
    ⟨.load 0 true 9 (.r 14), some (12, true)⟩,
    ⟨.load 0 true 33 (.s 4), some (12, true)⟩,
    ⟨.load 0 true 33 (.s 5), some (12, true)⟩,
    ⟨.call .val n_ppo_orders [(.r 15), (.r 16), (.r 17)], some (12, true)⟩,
    ⟨.pick (.r 12) (.r 18) (.c (.bool false)), none⟩] [] [] [(11, 19, none)])
  (.drop [6] [(true, 2)]))
  (.cond (.s 11) (.seq (.seq (.reg [⟨.mv (.c (.bool true)), none⟩] [] [] [(3, 0, none)])
   (.drop [4, 5, 7, 8, 9, 11] [(true, 0), (true, 1)]))
   (.ret))
   (.skip)))))
 (.seq (.reg [⟨.bin .add (.s 9) (.c (.int .i64 1)), none⟩,
   ⟨.mv (.r 0), none⟩] [] [] [(9, 1, none)])
 (.drop [11] []))))
def ir_ppo_view_fenced : Vm.Fn := ⟨[0, 1, 2, 6, 7, 8, 10, 38, 39, 40, 41, 63], 3, 0, [.slot 3],
 .seq (.seq (.reg [⟨.mv (.c (.bool false)), none⟩] [] [] [(3, 0, none)])
 (.drop [3] []))
 (.seq (.seq (.reg [⟨.mv (.s 0), none⟩,
   ⟨.nilck (.r 0), none⟩,
   ⟨.off 0 (.r 1), none⟩,
   ⟨.load 0 false 1 (.r 2), none⟩,
   ⟨.mv (.s 1), none⟩,
   ⟨.iaS 33 (.r 3) (.r 4), none⟩,
   ⟨.load 0 true 33 (.r 5), none⟩,
   ⟨.mv (.s 0), none⟩,
   ⟨.nilck (.r 7), none⟩,
   ⟨.off 0 (.r 8), none⟩,
   ⟨.load 0 false 1 (.r 9), none⟩,
   ⟨.mv (.s 2), none⟩,
   ⟨.iaS 33 (.r 10) (.r 11), none⟩,
   ⟨.load 0 true 33 (.r 12), none⟩,
   ⟨.lalloc 0 [.int .i64 0, .int .i64 0, .int .u64 0, .int .i64 0, .int .i64 0, .int .i64 0, .int .i64 0, .int .i64 0, .bool false, .bool false, .int .i64 0, .int .i64 0, .int .i64 0, .int .u64 0, .int .u64 0, .int .u64 0, .int .u64 0, .bool false, .int .i64 0, .flt 0, .int .i64 0, .int .i64 0, .int .i64 0, .int .i64 0, .int .i64 0, .int .i64 0, .int .i64 0, .int .i64 0, .int .i64 0, .bool false, .bool false, .int .i64 0, .int .i64 0], none⟩,
   ⟨.lalloc 1 [.int .i64 0, .int .i64 0, .int .u64 0, .int .i64 0, .int .i64 0, .int .i64 0, .int .i64 0, .int .i64 0, .bool false, .bool false, .int .i64 0, .int .i64 0, .int .i64 0, .int .u64 0, .int .u64 0, .int .u64 0, .int .u64 0, .bool false, .int .i64 0, .flt 0, .int .i64 0, .int .i64 0, .int .i64 0, .int .i64 0, .int .i64 0, .int .i64 0, .int .i64 0, .int .i64 0, .int .i64 0, .bool false, .bool false, .int .i64 0, .int .i64 0], none⟩,
   ⟨.store 0 33 (.r 14) (.r 6), none⟩,
   ⟨.store 0 33 (.r 15) (.r 13), none⟩] [(true, 0), (true, 1)] [(3, 10), (3, 12), (3, 13), (3, 14), (3, 15), (5, 10), (5, 12), (5, 13), (5, 14), (5, 15), (6, 10), (6, 12), (6, 13), (6, 14), (6, 15), (10, 14), (10, 15), (10, 16), (12, 14), (12, 15), (12, 16), (13, 14), (13, 15), (13, 16), (14, 15)] [(4, 14, some 1), (5, 15, some 3)])
 (.drop [1, 2] []))
 (.seq (.seq (.seq (.reg [⟨.mv (.s 0), none⟩,
   ⟨.off 0 (.s 4), none⟩,
   ⟨.load 0 false 1 (.r 1), none⟩,
   ⟨.nilck (.r 0), none⟩,
   ⟨.off 1 (.r 3), none⟩,
   ⟨.iaA 3 4 (.r 4) (.r 2), none⟩,
   ⟨.off 0 (.r 5), none⟩,
   ⟨.load 0 false 1 (.r 6), none⟩,
   ⟨.off 1 (.s 4), none⟩,
   ⟨.load 0 false 1 (.r 8), none⟩,
   ⟨.bin .add (.r 9) (.c (.int .i64 1)), none⟩,
   ⟨.off 1 (.s 5), none⟩,
   ⟨.load 0 false 1 (.r 11), none⟩,
   ⟨.slc 27 (.r 7) (some (.r 10)) (some (.r 12)) none, none⟩,
   ⟨.len 1 (.r 13), none⟩,
   ⟨.mv (.c (.int .i64 0)), none⟩] [] [(2, 9), (2, 12), (7, 9), (7, 12), (9, 12)] [(7, 13, none), (8, 14, none), (9, 15, none)])
 (.drop [0] []))
 (.block 0 (.loop ir_ppo_view_fencedl0)))
 (.seq (.seq (.reg [⟨.mv (.c (.bool false)), none⟩] [] [] [(3, 0, none)])
 (.drop [4, 5, 7, 8, 9, 10] [(true, 0), (true, 1)]))
 (.ret))))⟩
/-- 37: undertow/ppo.rules$1 -/
def h37 : Vm.Hint := ⟨[0, 1, 6], [], [], [[0], [0, 0, 0, 0, 0, 0, 0, 0, 0, 0, 0, 0]], [([2], []), ([0, 1], [])], []⟩
def ir_ppo_rules_1 : Vm.Fn := ⟨[0, 1, 6], 0, 0, [.slot 2],
 .seq (.seq (.reg [⟨.mv (.c (.bool false)), none⟩] [] [] [(2, 0, none)])
 (.drop [2] []))
 (.seq (.seq (.reg [⟨.mv (.s 0), none⟩,
   ⟨.nilck (.r 0), none⟩,
   ⟨.off 0 (.r 1), none⟩,
   ⟨.load 0 false 1 (.r 2), none⟩,
   ⟨.mv (.s 1), none⟩,
   ⟨.iaS 33 (.r 3) (.r 4), none⟩,
   ⟨.off 2 (.r 5), none⟩,
   ⟨.off 0 (.r 6), none⟩,
   ⟨.off 1 (.r 7), none⟩,
   ⟨.off 5 (.r 8), none⟩,
   ⟨.load 0 false 1 (.r 9), none⟩,
   ⟨.mv (.r 10), none⟩] [] [] [(2, 11, none)])
 (.drop [0, 1] []))
 (.ret))⟩
/-- 38: undertow/ppo.rules$2 -/
def h38 : Vm.Hint := ⟨[0, 2, 6], [], [], [[0], [0, 0, 0, 0, 0, 0, 0, 0, 0, 0, 0, 0]], [([2], []), ([0, 1], [])], []⟩
def ir_ppo_rules_2 : Vm.Fn := ⟨[0, 2, 6], 0, 0, [.slot 2],
 .seq (.seq (.reg [⟨.mv (.c (.bool false)), none⟩] [] [] [(2, 0, none)])
 (.drop [2] []))
 (.seq (.seq (.reg [⟨.mv (.s 0), none⟩,
   ⟨.nilck (.r 0), none⟩,
   ⟨.off 0 (.r 1), none⟩,
   ⟨.load 0 false 1 (.r 2), none⟩,
   ⟨.mv (.s 1), none⟩,
   ⟨.iaS 33 (.r 3) (.r 4), none⟩,
   ⟨.off 2 (.r 5), none⟩,
   ⟨.off 0 (.r 6), none⟩,
   ⟨.off 1 (.r 7), none⟩,
   ⟨.off 6 (.r 8), none⟩,
   ⟨.load 0 false 1 (.r 9), none⟩,
   ⟨.mv (.r 10), none⟩] [] [] [(2, 11, none)])
 (.drop [0, 1] []))
 (.ret))⟩
/-- 39: undertow/ppo.rules$3 -/
def h39 : Vm.Hint := ⟨[0, 1, 2, 6], [], [], [[0], [0, 0, 0, 0, 0, 0, 0, 0, 0, 0, 0, 0, 0, 0, 0, 0, 0, 0, 0]], [([3], []), ([0, 1, 2], [])], []⟩
def ir_ppo_rules_3 : Vm.Fn := ⟨[0, 1, 2, 6], 0, 0, [.slot 3],
 .seq (.seq (.reg [⟨.mv (.c (.bool false)), none⟩] [] [] [(3, 0, none)])
 (.drop [3] []))
 (.seq (.seq (.reg [⟨.mv (.s 0), none⟩,
   ⟨.nilck (.r 0), none⟩,
   ⟨.off 0 (.r 1), none⟩,
   ⟨.load 0 false 1 (.r 2), none⟩,
   ⟨.mv (.s 1), none⟩,
   ⟨.iaS 33 (.r 3) (.r 4), none⟩,
   ⟨.load 0 true 33 (.r 5), none⟩,
   ⟨.call .val n_ppo_strong [(.r 6)], none⟩,
   ⟨.mv (.r 7), none⟩,
   ⟨.mv (.s 0), some (8, true)⟩,
   ⟨.nilck (.r 9), some (8, true)⟩,
   ⟨.off 0 (.r 10), some (8, true)⟩,
   ⟨.load 0 false 1 (.r 11), some (8, true)⟩,
   ⟨.mv (.s 2), some (8, true)⟩,
   ⟨.iaS 33 (.r 12) (.r 13), some (8, true)⟩,
   ⟨.load 0 true 33 (.r 14), some (8, true)⟩,
   ⟨.call .val n_ppo_strong [(.r 15)], some (8, true)⟩,
   ⟨.pick (.r 8) (.r 16) (.c (.bool false)), none⟩,
   ⟨.mv (.r 17), none⟩] [] [] [(3, 18, none)])
 (.drop [0, 1, 2] []))
 (.ret))⟩
/-- 40: undertow/ppo.strong -/
def h40 : Vm.Hint := ⟨[0, 1, 2], [1], [], [[1, 0], [0, 0, 0, 0, 0, 0, 0, 0, 0, 0, 0, 0, 0]], [([0, 2], []), ([1], [(true, 0)])], []⟩
def ir_ppo_strong : Vm.Fn := ⟨[0, 1, 2], 1, 0, [.slot 2],
 .seq (.seq (.reg [⟨.lbox 0 33 (.s 0), none⟩,
   ⟨.mv (.c (.bool false)), none⟩] [(true, 0)] [] [(1, 0, some 1), (2, 1, none)])
 (.drop [0, 2] []))
 (.seq (.seq (.reg [⟨.off 2 (.s 1), none⟩,
   ⟨.off 0 (.r 0), none⟩,
   ⟨.off 1 (.r 1), none⟩,
   ⟨.off 5 (.r 2), none⟩,
   ⟨.load 0 false 1 (.r 3), none⟩,
   ⟨.mv (.r 4), none⟩,
   ⟨.off 2 (.s 1), some (5, false)⟩,
   ⟨.off 0 (.r 6), some (5, false)⟩,
   ⟨.off 1 (.r 7), some (5, false)⟩,
   ⟨.off 6 (.r 8), some (5, false)⟩,
   ⟨.load 0 false 1 (.r 9), some (5, false)⟩,
   ⟨.pick (.r 5) (.c (.bool true)) (.r 10), none⟩,
   ⟨.mv (.r 11), none⟩] [] [] [(2, 12, none)])
 (.drop [1] [(true, 0)]))
 (.ret))⟩
/-- 41: (*undertow/ppo.view).paired -/
def h41 : Vm.Hint := ⟨[0, 1, 2, 6, 7, 8], [7, 8], [], [[0], [0, 0, 0, 0, 0, 0, 0, 0, 0, 0, 0, 0, 0, 0, 0, 0, 1, 2, 0, 0], [0, 0, 0, 0, 0, 0, 0, 0, 0, 0, 0, 0, 0, 0, 0, 0, 0, 0, 0, 0, 0, 0]], [([3], []), ([0, 1, 2], []), ([4, 5], [(true, 0), (true, 1)])], []⟩
def ir_ppo_view_paired : Vm.Fn := ⟨[0, 1, 2, 6, 7, 8], 2, 0, [.slot 3],
 .seq (.seq (.reg [⟨.mv (.c (.bool false)), none⟩] [] [] [(3, 0, none)])
 (.drop [3] []))
 (.seq (.seq (.reg [⟨.mv (.s 0), none⟩,
   ⟨.nilck (.r 0), none⟩,
   ⟨.off 0 (.r 1), none⟩,
   ⟨.load 0 false 1 (.r 2), none⟩,
   ⟨.mv (.s 1), none⟩,
   ⟨.iaS 33 (.r 3) (.r 4), none⟩,
   ⟨.off 2 (.r 5), none⟩,
   ⟨.load 0 true 27 (.r 6), none⟩,
   ⟨.mv (.s 0), none⟩,
   ⟨.nilck (.r 8), none⟩,
   ⟨.off 0 (.r 9), none⟩,
   ⟨.load 0 false 1 (.r 10), none⟩,
   ⟨.mv (.s 2), none⟩,
   ⟨.iaS 33 (.r 11) (.r 12), none⟩,
   ⟨.off 2 (.r 13), none⟩,
   ⟨.load 0 true 27 (.r 14), none⟩,
   ⟨.lalloc 0 [.int .u64 0, .int .i64 0, .int .i64 0, .int .i64 0, .int .i64 0, .int .i64 0, .bool false, .bool false, .int .i64 0, .int .i64 0, .int .i64 0, .int .u64 0, .int .u64 0, .int .u64 0, .int .u64 0, .bool false, .int .i64 0, .flt 0, .int .i64 0, .int .i64 0, .int .i64 0, .int .i64 0, .int .i64 0, .int .i64 0, .int .i64 0, .int .i64 0, .int .i64 0], none⟩,
   ⟨.lalloc 1 [.int .u64 0, .int .i64 0, .int .i64 0, .int .i64 0, .int .i64 0, .int .i64 0, .bool false, .bool false, .int .i64 0, .int .i64 0, .int .i64 0, .int .u64 0, .int .u64 0, .int .u64 0, .int .u64 0, .bool false, .int .i64 0, .flt 0, .int .i64 0, .int .i64 0, .int .i64 0, .int .i64 0, .int .i64 0, .int .i64 0, .int .i64 0, .int .i64 0, .int .i64 0], none⟩,
   ⟨.store 0 27 (.r 16) (.r 7), none⟩,
   ⟨.store 0 27 (.r 17) (.r 15), none⟩] [(true, 0), (true, 1)] [(3, 11), (3, 13), (3, 15), (3, 16), (3, 17), (5, 11), (5, 13), (5, 15), (5, 16), (5, 17), (7, 11), (7, 13), (7, 15), (7, 16), (7, 17), (11, 16), (11, 17), (11, 18), (13, 16), (13, 17), (13, 18), (15, 16), (15, 17), (15, 18), (16, 17)] [(4, 16, some 1), (5, 17, some 3)])
 (.drop [0, 1, 2] []))
 (.seq (.seq (.reg [⟨.off 0 (.s 5), none⟩,
   ⟨.off 1 (.r 0), none⟩,
   ⟨.off 0 (.r 1), none⟩,
   ⟨.load 0 false 1 (.r 2), none⟩,
   ⟨.call .val n_ops_Sort [(.r 3)], none⟩,
   ⟨.bin .eql (.r 4) (.c (.int .i64 11)), none⟩,
   ⟨.mv (.r 5), none⟩,
   ⟨.off 0 (.s 4), some (6, true)⟩,
   ⟨.off 1 (.r 7), some (6, true)⟩,
   ⟨.off 0 (.r 8), some (6, true)⟩,
   ⟨.load 0 false 1 (.r 9), some (6, true)⟩,
   ⟨.call .val n_ops_Sort [(.r 10)], some (6, true)⟩,
   ⟨.bin .eql (.r 11) (.c (.int .i64 10)), some (6, true)⟩,
   ⟨.pick (.r 6) (.r 12) (.c (.bool false)), none⟩,
   ⟨.mv (.r 13), none⟩,
   ⟨.off 26 (.s 5), some (14, true)⟩,
   ⟨.load 0 false 1 (.r 15), some (14, true)⟩,
   ⟨.off 16 (.s 4), some (14, true)⟩,
   ⟨.load 0 false 1 (.r 17), some (14, true)⟩,
   ⟨.bin .eql (.r 16) (.r 18), some (14, true)⟩,
   ⟨.pick (.r 14) (.r 19) (.c (.bool false)), none⟩,
   ⟨.mv (.r 20), none⟩] [] [] [(3, 21, none)])
 (.drop [4, 5] [(true, 0), (true, 1)]))
 (.ret)))⟩
/-- 42: undertow/ppo.rules$4 -/
def h42 : Vm.Hint := ⟨[0, 1, 2, 6], [], [], [[0], [0, 0, 0, 0, 0]], [([3], []), ([0, 1, 2], [])], []⟩
def ir_ppo_rules_4 : Vm.Fn := ⟨[0, 1, 2, 6], 0, 0, [.slot 3],
 .seq (.seq (.reg [⟨.mv (.c (.bool false)), none⟩] [] [] [(3, 0, none)])
 (.drop [3] []))
 (.seq (.seq (.reg [⟨.mv (.s 0), none⟩,
   ⟨.mv (.s 1), none⟩,
   ⟨.mv (.s 2), none⟩,
   ⟨.call .val n_ppo_view_hangs [(.r 0), (.c (.fn 44 [] [])), (.r 1), (.r 2)], none⟩,
   ⟨.mv (.r 3), none⟩] [] [] [(3, 4, none)])
 (.drop [0, 1, 2] []))
 (.ret))⟩
/-- 43: (*undertow/ppo.view).hangs -/
def h43 : Vm.Hint := ⟨[0, 1, 2, 3, 8], [], [], [[0], [0, 0, 0, 0, 0, 0, 0, 0, 0, 0, 0, 0, 0, 0, 0, 0, 0, 0, 0, 0, 0, 0, 0, 0, 0, 0, 0, 0, 0, 0, 0, 0, 0]], [([4], []), ([0, 1, 2, 3], [])], []⟩
def ir_ppo_view_hangs : Vm.Fn := ⟨[0, 1, 2, 3, 8], 0, 0, [.slot 4],
 .seq (.seq (.reg [⟨.mv (.c (.bool false)), none⟩] [] [] [(4, 0, none)])
 (.drop [4] []))
 (.seq (.seq (.reg [⟨.mv (.s 1), none⟩,
   ⟨.mv (.s 0), none⟩,
   ⟨.mv (.s 0), none⟩,
   ⟨.nilck (.r 2), none⟩,
   ⟨.off 0 (.r 3), none⟩,
   ⟨.load 0 false 1 (.r 4), none⟩,
   ⟨.mv (.s 2), none⟩,
   ⟨.iaS 33 (.r 5) (.r 6), none⟩,
   ⟨.off 0 (.r 7), none⟩,
   ⟨.load 0 false 1 (.r 8), none⟩,
   ⟨.nilck (.r 1), none⟩,
   ⟨.off 1 (.r 10), none⟩,
   ⟨.iaA 3 4 (.r 11) (.r 9), none⟩,
   ⟨.load 0 true 4 (.r 12), none⟩,
   ⟨.callv .val (.r 0) [(.r 13)], none⟩,
   ⟨.mv (.s 0), none⟩,
   ⟨.nilck (.r 15), none⟩,
   ⟨.off 0 (.r 16), none⟩,
   ⟨.load 0 false 1 (.r 17), none⟩,
   ⟨.mv (.s 2), none⟩,
   ⟨.iaS 33 (.r 18) (.r 19), none⟩,
   ⟨.off 1 (.r 20), none⟩,
   ⟨.load 0 false 1 (.r 21), none⟩,
   ⟨.mv (.s 0), none⟩,
   ⟨.nilck (.r 23), none⟩,
   ⟨.off 0 (.r 24), none⟩,
   ⟨.load 0 false 1 (.r 25), none⟩,
   ⟨.mv (.s 3), none⟩,
   ⟨.iaS 33 (.r 26) (.r 27), none⟩,
   ⟨.off 1 (.r 28), none⟩,
   ⟨.load 0 false 1 (.r 29), none⟩,
   ⟨.call .val n_rel_Rel_Has [(.r 14), (.r 22), (.r 30)], none⟩,
   ⟨.mv (.r 31), none⟩] [] [(5, 18), (5, 20), (5, 22), (5, 26), (5, 28), (5, 30), (7, 18), (7, 20), (7, 22), (7, 26), (7, 28), (7, 30), (9, 18), (9, 20), (9, 22), (9, 26), (9, 28), (9, 30), (13, 18), (13, 20), (13, 22), (13, 26), (13, 28), (13, 30), (14, 18), (14, 20), (14, 22), (14, 26), (14, 28), (14, 30), (18, 26), (18, 28), (18, 30), (20, 26), (20, 28), (20, 30), (22, 26), (22, 28), (22, 30)] [(4, 32, none)])
 (.drop [0, 1, 2, 3] []))
 (.ret))⟩
/-- 44: undertow/ppo.byAddress -/
def h44 : Vm.Hint := ⟨[0, 1, 2], [1], [], [[1, 0], [0, 0, 0]], [([0, 2], []), ([1], [(true, 0)])], []⟩
def ir_ppo_byAddress : Vm.Fn := ⟨[0, 1, 2], 1, 0, [.slot 2],
 .seq (.seq (.reg [⟨.lbox 0 4 (.s 0), none⟩,
   ⟨.mv (.c (.nilp)), none⟩] [(true, 0)] [] [(1, 0, some 1), (2, 1, none)])
 (.drop [0, 2] []))
 (.seq (.seq (.reg [⟨.off 1 (.s 1), none⟩,
   ⟨.load 0 false 1 (.r 0), none⟩,
   ⟨.mv (.r 1), none⟩] [] [] [(2, 2, none)])
 (.drop [1] [(true, 0)]))
 (.ret))⟩
/-- 45: undertow/ppo.rules$5 -/
def h45 : Vm.Hint := ⟨[0, 1, 2, 6], [], [], [[0], [0, 0, 0, 0, 0]], [([3], []), ([0, 1, 2], [])], []⟩
def ir_ppo_rules_5 : Vm.Fn := ⟨[0, 1, 2, 6], 0, 0, [.slot 3],
 .seq (.seq (.reg [⟨.mv (.c (.bool false)), none⟩] [] [] [(3, 0, none)])
 (.drop [3] []))
 (.seq (.seq (.reg [⟨.mv (.s 0), none⟩,
   ⟨.mv (.s 1), none⟩,
   ⟨.mv (.s 2), none⟩,
   ⟨.call .val n_ppo_view_hangs [(.r 0), (.c (.fn 46 [] [])), (.r 1), (.r 2)], none⟩,
   ⟨.mv (.r 3), none⟩] [] [] [(3, 4, none)])
 (.drop [0, 1, 2] []))
 (.ret))⟩
/-- 46: undertow/ppo.byData -/
def h46 : Vm.Hint := ⟨[0, 1, 2], [1], [], [[1, 0], [0, 0, 0]], [([0, 2], []), ([1], [(true, 0)])], []⟩
def ir_ppo_byData : Vm.Fn := ⟨[0, 1, 2], 1, 0, [.slot 2],
 .seq (.seq (.reg [⟨.lbox 0 4 (.s 0), none⟩,
   ⟨.mv (.c (.nilp)), none⟩] [(true, 0)] [] [(1, 0, some 1), (2, 1, none)])
 (.drop [0, 2] []))
 (.seq (.seq (.reg [⟨.off 2 (.s 1), none⟩,
   ⟨.load 0 false 1 (.r 0), none⟩,
   ⟨.mv (.r 1), none⟩] [] [] [(2, 2, none)])
 (.drop [1] [(true, 0)]))
 (.ret))⟩
/-- 47: undertow/ppo.rules$6 -/
def h47 : Vm.Hint := ⟨[0, 1, 2, 6], [], [], [[0], [0, 0, 0, 0, 0, 0, 0, 0, 0, 0, 0, 0, 0, 0, 0]], [([3], []), ([0, 1, 2], [])], []⟩
def ir_ppo_rules_6 : Vm.Fn := ⟨[0, 1, 2, 6], 0, 0, [.slot 3],
 .seq (.seq (.reg [⟨.mv (.c (.bool false)), none⟩] [] [] [(3, 0, none)])
 (.drop [3] []))
 (.seq (.seq (.reg [⟨.mv (.s 0), none⟩,
   ⟨.nilck (.r 0), none⟩,
   ⟨.off 0 (.r 1), none⟩,
   ⟨.load 0 false 1 (.r 2), none⟩,
   ⟨.mv (.s 2), none⟩,
   ⟨.iaS 33 (.r 3) (.r 4), none⟩,
   ⟨.off 30 (.r 5), none⟩,
   ⟨.load 0 false 1 (.r 6), none⟩,
   ⟨.mv (.r 7), none⟩,
   ⟨.mv (.s 0), some (8, true)⟩,
   ⟨.mv (.s 1), some (8, true)⟩,
   ⟨.mv (.s 2), some (8, true)⟩,
   ⟨.call .val n_ppo_view_hangs [(.r 9), (.c (.fn 48 [] [])), (.r 10), (.r 11)], some (8, true)⟩,
   ⟨.pick (.r 8) (.r 12) (.c (.bool false)), none⟩,
   ⟨.mv (.r 13), none⟩] [] [] [(3, 14, none)])
 (.drop [0, 1, 2] []))
 (.ret))⟩
/-- 48: undertow/ppo.byCourse -/
def h48 : Vm.Hint := ⟨[0, 1, 2], [1], [], [[1, 0], [0, 0, 0]], [([0, 2], []), ([1], [(true, 0)])], []⟩
def ir_ppo_byCourse : Vm.Fn := ⟨[0, 1, 2], 1, 0, [.slot 2],
 .seq (.seq (.reg [⟨.lbox 0 4 (.s 0), none⟩,
   ⟨.mv (.c (.nilp)), none⟩] [(true, 0)] [] [(1, 0, some 1), (2, 1, none)])
 (.drop [0, 2] []))
 (.seq (.seq (.reg [⟨.off 3 (.s 1), none⟩,
   ⟨.load 0 false 1 (.r 0), none⟩,
   ⟨.mv (.r 1), none⟩] [] [] [(2, 2, none)])
 (.drop [1] [(true, 0)]))
 (.ret))⟩
/-- 49: (*undertow/ppo.view).through -/
def h49 : Vm.Hint := ⟨[0, 1, 2, 6, 7, 8, 9, 13, 14, 15, 16, 50], [8], [], [[0], [0, 0, 0, 0, 0, 0], [0], [0, 0, 0, 1, 0, 0], [0, 0, 0, 0, 0], [0, 0, 0, 0, 0, 0, 0, 0, 0, 0, 0, 0, 0, 0, 0, 0, 0, 0, 0, 0, 0, 0, 0, 0, 0, 0, 0], [0], [0, 0], [0]], [([3], []), ([], []), ([], []), ([10], []), ([4], []), ([5, 6], [(true, 0)]), ([0, 1, 2, 7, 8, 9, 11], []), ([11], []), ([0, 1, 2, 7, 8, 9, 10], [])], []⟩
def ir_ppo_view_throughl0 : C :=
 .seq (.reg [⟨.bin .lss (.s 9) (.s 8), none⟩] [] [] [(10, 0, none)])
 (.seq (.cond (.s 10) (.skip)
  (.exit 0))
 (.seq (.block 1 (.seq (.seq (.reg [⟨.mv (.s 9), none⟩,
    ⟨.iaS 33 (.s 7) (.s 9), none⟩,
    ⟨.load 0 true 33 (.r 1), none⟩,
    ⟨.lalloc 0 [.int .i64 0, .int .i64 0, .int .u64 0, .int .i64 0, .int .i64 0, .int .i64 0, .int .i64 0, .int .i64 0, .bool false, .bool false, .int .i64 0, .int .i64 0, .int .i64 0, .int .u64 0, .int .u64 0, .int .u64 0, .int .u64 0, .bool false, .int .i64 0, .flt 0, .int .i64 0, .int .i64 0, .int .i64 0, .int .i64 0, .int .i64 0, .int .i64 0, .int .i64 0, .int .i64 0, .int .i64 0, .bool false, .bool false, .int .i64 0, .int .i64 0], none⟩,
    ⟨.mv (.r 0), none⟩,
    ⟨.store 0 33 (.r 3) (.r 2), none⟩] [(true, 0)] [] [(4, 4, none), (5, 3, some 1)])
  (.drop [10] []))
  (.seq (.seq (.reg [⟨.mv (.s 1), none⟩,
    ⟨.bin .add (.r 0) (.c (.int .i64 1)), none⟩,
    ⟨.mv (.s 4), none⟩,
    ⟨.bin .add (.r 1) (.r 2), none⟩,
    ⟨.mv (.r 3), none⟩] [] [] [(6, 4, none)])
  (.drop [4] []))
  (.seq (.seq (.reg [⟨.off 30 (.s 5), none⟩,
    ⟨.load 0 false 1 (.r 0), none⟩,
    ⟨.mv (.r 1), none⟩,
    ⟨.mv (.s 0), some (2, true)⟩,
    ⟨.nilck (.r 3), some (2, true)⟩,
    ⟨.off 0 (.r 4), some (2, true)⟩,
    ⟨.load 0 false 1 (.r 5), some (2, true)⟩,
    ⟨.mv (.s 2), some (2, true)⟩,
    ⟨.iaS 33 (.r 6) (.r 7), some (2, true)⟩,
    ⟨.load 0 true 33 (.r 8), some (2, true)⟩,
    ⟨.off 2 (.s 5), some (2, true)⟩,
    ⟨.off 16 (.r 10), some (2, true)⟩,
    ⟨.load 0 false 1 (.r 11), some (2, true)⟩,
    ⟨.call .val n_ppo_returns [(.r 9), (.r 12)], some (2, true)⟩,
    ⟨.pick (.r 2) (.r 13) (.c (.bool false)), none⟩,
    ⟨.mv (.r 14), none⟩,
    ⟨.mv (.s 0), some (15, true)⟩,
    ⟨.mv (.s 1), some (15, true)⟩,
    ⟨.mv (.s 6), some (15, true)⟩,
    ⟨.call .val n_ppo_view_hangs [(.r 16), (.c (.fn 44 [] [])), (.r 17), (.r 18)], some (15, true)⟩,
    ⟨.mv (.r 19), some (15, true)⟩,
    ⟨.mv (.s 0), some (20, false)⟩,
    ⟨.mv (.s 1), some (20, false)⟩,
    ⟨.mv (.s 6), some (20, false)⟩,
    ⟨.call .val n_ppo_view_hangs [(.r 21), (.c (.fn 46 [] [])), (.r 22), (.r 23)], some (20, false)⟩,
    ⟨.pick (.r 20) (.c (.bool true)) (.r 24), some (15, true)⟩,
    ⟨.pick (.r 15) (.r 25) (.c (.bool false)), none⟩] [] [(6, 12), (8, 12), (9, 12)] [(11, 26, none)])
  (.drop [5, 6] [(true, 0)]))
  (.cond (.s 11) (.seq (.seq (.reg [⟨.mv (.c (.bool true)), none⟩] [] [] [(3, 0, none)])
   (.drop [0, 1, 2, 7, 8, 9, 11] []))
   (.ret))
   (.skip))))))
 (.seq (.reg [⟨.bin .add (.s 9) (.c (.int .i64 1)), none⟩,
   ⟨.mv (.r 0), none⟩] [] [] [(9, 1, none)])
 (.drop [11] []))))
def ir_ppo_view_through : Vm.Fn := ⟨[0, 1, 2, 6, 7, 8, 9, 13, 14, 15, 16, 50], 1, 0, [.slot 3],
 .seq (.seq (.reg [⟨.mv (.c (.bool false)), none⟩] [] [] [(3, 0, none)])
 (.drop [3] []))
 (.seq (.seq (.reg [⟨.mv (.s 0), none⟩,
   ⟨.mv (.s 1), none⟩,
   ⟨.mv (.s 2), none⟩,
   ⟨.call .val n_ppo_view_between [(.r 0), (.r 1), (.r 2)], none⟩,
   ⟨.len 1 (.r 3), none⟩,
   ⟨.mv (.c (.int .i64 0)), none⟩] [] [] [(7, 3, none), (8, 4, none), (9, 5, none)])
 (.block 0 (.loop ir_ppo_view_throughl0)))
 (.seq (.seq (.reg [⟨.mv (.c (.bool false)), none⟩] [] [] [(3, 0, none)])
 (.drop [0, 1, 2, 7, 8, 9, 10] []))
 (.ret)))⟩
/-- 50: (*undertow/ppo.view).known -/
def h50 : Vm.Hint := ⟨[0, 1, 2, 6, 7, 8, 9, 34, 48], [7, 8], [], [[0], [0, 0, 0, 0, 0, 0, 0, 0, 0, 0, 0, 0, 0, 0, 1, 2, 0, 0], [0, 0, 0, 0], [0, 0, 0, 0, 0, 0, 0, 0], [0, 0, 0], [0, 0, 0, 0, 0, 0, 0, 0, 0, 0, 0, 0], [0], [0]], [([3], []), ([1, 2], []), ([], []), ([], []), ([8], []), ([7], []), ([0, 4, 5, 6, 8], [(true, 0), (true, 1)]), ([0, 4, 5, 6, 7], [(true, 0), (true, 1)])], []⟩
def ir_ppo_view_knownl0 : C :=
 .seq (.seq (.reg [⟨.mv (.s 6), none⟩,
   ⟨.off 1 (.s 5), none⟩,
   ⟨.load 0 false 1 (.r 1), none⟩,
   ⟨.bin .lss (.r 0) (.r 2), none⟩,
   ⟨.mv (.r 3), none⟩,
   ⟨.off 30 (.s 5), some (4, true)⟩,
   ⟨.load 0 false 1 (.r 5), some (4, true)⟩,
   ⟨.pick (.r 4) (.r 6) (.c (.bool false)), none⟩] [] [] [(7, 7, none)])
 (.cond (.s 7) (.skip)
  (.exit 0)))
 (.seq (.block 1 (.seq (.seq (.reg [⟨.mv (.s 0), none⟩,
    ⟨.off 0 (.s 4), none⟩,
    ⟨.load 0 false 1 (.r 1), none⟩,
    ⟨.nilck (.r 0), none⟩,
    ⟨.off 1 (.r 3), none⟩,
    ⟨.iaA 3 4 (.r 4) (.r 2), none⟩,
    ⟨.off 1 (.r 5), none⟩,
    ⟨.load 0 false 1 (.r 6), none⟩,
    ⟨.off 1 (.s 4), none⟩,
    ⟨.load 0 false 1 (.r 8), none⟩,
    ⟨.mv (.s 6), none⟩,
    ⟨.call .val n_rel_Rel_Has [(.r 7), (.r 9), (.r 10)], none⟩] [] [(2, 9), (7, 9)] [(8, 11, none)])
  (.drop [7] []))
  (.cond (.s 8) (.seq (.seq (.reg [⟨.mv (.c (.bool true)), none⟩] [] [] [(3, 0, none)])
   (.drop [0, 4, 5, 6, 8] [(true, 0), (true, 1)]))
   (.ret))
   (.skip))))
 (.seq (.reg [⟨.mv (.s 6), none⟩,
   ⟨.bin .add (.r 0) (.c (.int .i64 1)), none⟩,
   ⟨.mv (.r 1), none⟩] [] [] [(6, 2, none)])
 (.drop [8] [])))
def ir_ppo_view_known : Vm.Fn := ⟨[0, 1, 2, 6, 7, 8, 9, 34, 48], 2, 0, [.slot 3],
 .seq (.seq (.reg [⟨.mv (.c (.bool false)), none⟩] [] [] [(3, 0, none)])
 (.drop [3] []))
 (.seq (.seq (.reg [⟨.mv (.s 0), none⟩,
   ⟨.nilck (.r 0), none⟩,
   ⟨.off 0 (.r 1), none⟩,
   ⟨.load 0 false 1 (.r 2), none⟩,
   ⟨.mv (.s 1), none⟩,
   ⟨.iaS 33 (.r 3) (.r 4), none⟩,
   ⟨.load 0 true 33 (.r 5), none⟩,
   ⟨.mv (.s 0), none⟩,
   ⟨.nilck (.r 7), none⟩,
   ⟨.off 0 (.r 8), none⟩,
   ⟨.load 0 false 1 (.r 9), none⟩,
   ⟨.mv (.s 2), none⟩,
   ⟨.iaS 33 (.r 10) (.r 11), none⟩,
   ⟨.load 0 true 33 (.r 12), none⟩,
   ⟨.lalloc 0 [.int .i64 0, .int .i64 0, .int .u64 0, .int .i64 0, .int .i64 0, .int .i64 0, .int .i64 0, .int .i64 0, .bool false, .bool false, .int .i64 0, .int .i64 0, .int .i64 0, .int .u64 0, .int .u64 0, .int .u64 0, .int .u64 0, .bool false, .int .i64 0, .flt 0, .int .i64 0, .int .i64 0, .int .i64 0, .int .i64 0, .int .i64 0, .int .i64 0, .int .i64 0, .int .i64 0, .int .i64 0, .bool false, .bool false, .int .i64 0, .int .i64 0], none⟩,
   ⟨.lalloc 1 [.int .i64 0, .int .i64 0, .int .u64 0, .int .i64 0, .int .i64 0, .int .i64 0, .int .i64 0, .int .i64 0, .bool false, .bool false, .int .i64 0, .int .i64 0, .int .i64 0, .int .u64 0, .int .u64 0, .int .u64 0, .int .u64 0, .bool false, .int .i64 0, .flt 0, .int .i64 0, .int .i64 0, .int .i64 0, .int .i64 0, .int .i64 0, .int .i64 0, .int .i64 0, .int .i64 0, .int .i64 0, .bool false, .bool false, .int .i64 0, .int .i64 0], none⟩,
   ⟨.store 0 33 (.r 14) (.r 6), none⟩,
   ⟨.store 0 33 (.r 15) (.r 13), none⟩] [(true, 0), (true, 1)] [(3, 10), (3, 12), (3, 13), (3, 14), (3, 15), (5, 10), (5, 12), (5, 13), (5, 14), (5, 15), (6, 10), (6, 12), (6, 13), (6, 14), (6, 15), (10, 14), (10, 15), (10, 16), (12, 14), (12, 15), (12, 16), (13, 14), (13, 15), (13, 16), (14, 15)] [(4, 14, some 1), (5, 15, some 3)])
 (.drop [1, 2] []))
 (.seq (.seq (.reg [⟨.off 1 (.s 4), none⟩,
   ⟨.load 0 false 1 (.r 0), none⟩,
   ⟨.bin .add (.r 1) (.c (.int .i64 1)), none⟩,
   ⟨.mv (.r 2), none⟩] [] [] [(6, 3, none)])
 (.block 0 (.loop ir_ppo_view_knownl0)))
 (.seq (.seq (.reg [⟨.mv (.c (.bool false)), none⟩] [] [] [(3, 0, none)])
 (.drop [0, 4, 5, 6, 7] [(true, 0), (true, 1)]))
 (.ret))))⟩
/-- 51: (*undertow/rel.Rel).Add -/
def h51 : Vm.Hint := ⟨[0, 1, 2, 6, 16], [], [], [[0], [0, 0, 0, 0, 0, 0, 0, 0, 0, 0], [0], [0, 0, 0, 0, 0, 0, 0, 0, 1], [0]], [([3], []), ([], []), ([0, 1, 2, 4], []), ([0, 1, 2, 4], []), ([], [])], []⟩
def ir_rel_Rel_Add : Vm.Fn := ⟨[0, 1, 2, 6, 16], 0, 0, [.slot 3],
 .seq (.seq (.reg [⟨.mv (.c (.bool false)), none⟩] [] [] [(3, 0, none)])
 (.drop [3] []))
 (.seq (.seq (.reg [⟨.mv (.s 0), none⟩,
   ⟨.mv (.s 1), none⟩,
   ⟨.call .val n_rel_Rel_is [(.r 0), (.r 1)], none⟩,
   ⟨.un .not (.r 2), none⟩,
   ⟨.mv (.r 3), none⟩,
   ⟨.mv (.s 0), some (4, false)⟩,
   ⟨.mv (.s 2), some (4, false)⟩,
   ⟨.call .val n_rel_Rel_is [(.r 5), (.r 6)], some (4, false)⟩,
   ⟨.un .not (.r 7), some (4, false)⟩,
   ⟨.pick (.r 4) (.c (.bool true)) (.r 8), none⟩] [] [] [(4, 9, none)])
 (.cond (.s 4) (.seq (.seq (.reg [⟨.mv (.c (.bool false)), none⟩] [] [] [(3, 0, none)])
  (.drop [0, 1, 2, 4] []))
  (.ret))
  (.skip)))
 (.seq (.seq (.reg [⟨.mv (.s 0), none⟩,
   ⟨.nilck (.r 0), none⟩,
   ⟨.off 0 (.r 1), none⟩,
   ⟨.load 0 false 1 (.r 2), none⟩,
   ⟨.mv (.s 1), none⟩,
   ⟨.iaS 1 (.r 3) (.r 4), none⟩,
   ⟨.load 0 false 1 (.r 5), none⟩,
   ⟨.mv (.s 2), none⟩,
   ⟨.call .heap n_rel_row_add [(.r 6), (.r 7)], none⟩] [] [] [])
 (.drop [0, 1, 2, 4] []))
 (.seq (.reg [⟨.mv (.c (.bool true)), none⟩] [] [] [(3, 0, none)])
 (.ret))))⟩
/-- 52: math/bits.TrailingZeros64 -/
def h52 : Vm.Hint := ⟨[0, 2, 4], [], [], [[0], [0, 0], [0], [0, 0, 0, 0, 0, 0, 0, 0, 0, 0]], [([1], []), ([], []), ([0, 2], []), ([0, 2], [])], []⟩
def ir_math_bits_TrailingZeros64 : Vm.Fn := ⟨[0, 2, 4], 0, 0, [.slot 1],
 .seq (.seq (.reg [⟨.mv (.c (.int .i64 0)), none⟩] [] [] [(1, 0, none)])
 (.drop [1] []))
 (.seq (.seq (.reg [⟨.mv (.s 0), none⟩,
   ⟨.bin .eql (.r 0) (.c (.int .u64 0)), none⟩] [] [] [(2, 1, none)])
 (.cond (.s 2) (.seq (.seq (.reg [⟨.mv (.c (.int .i64 64)), none⟩] [] [] [(1, 0, none)])
  (.drop [0, 2] []))
  (.ret))
  (.skip)))
 (.seq (.seq (.reg [⟨.mv (.s 0), none⟩,
   ⟨.mv (.s 0), none⟩,
   ⟨.un .neg (.r 1), none⟩,
   ⟨.bin .and (.r 0) (.r 2), none⟩,
   ⟨.bin .mul (.r 3) (.c (.int .u64 285870213051353865)), none⟩,
   ⟨.bin .shr (.r 4) (.c (.int .u64 58)), none⟩,
   ⟨.iaA 64 1 (.c (.ip false glV 0)) (.r 5), none⟩,
   ⟨.load 0 false 1 (.r 6), none⟩,
   ⟨.i2i .i64 (.r 7), none⟩,
   ⟨.mv (.r 8), none⟩] [] [] [(1, 9, none)])
 (.drop [0, 2] []))
 (.ret)))⟩
/-- 53: undertow/deps.along -/
def h53 : Vm.Hint := ⟨[0, 1, 4, 5, 6, 7, 8, 10, 15, 18, 19, 20, 21, 32, 33, 34, 35], [8], [], [[0], [0, 0, 1, 0], [0, 0], [0], [0, 0, 0], [0, 0, 0], [0], [0, 0, 0, 1, 0, 0], [0, 0, 0, 0, 0, 0, 1, 0, 0, 0], [0], [0, 0, 0], [0, 0, 0, 1], [0, 0], [0, 0, 0, 0, 0, 1], [0, 0], [0, 0]], [([2], []), ([], []), ([], []), ([0, 1, 3, 8], []), ([8], []), ([0], []), ([], []), ([12], []), ([], []), ([], []), ([16], []), ([7], []), ([], []), ([5, 6, 13, 14, 15, 16], [(true, 0)]), ([], []), ([1, 3, 4, 9, 10, 11, 12], [])], []⟩
def ir_deps_alongl0 : C :=
 .seq (.reg [⟨.bin .lss (.s 15) (.s 14), none⟩] [] [] [(16, 0, none)])
 (.seq (.cond (.s 16) (.skip)
  (.exit 2))
 (.seq (.block 3 (.seq (.seq (.reg [⟨.iaS 1 (.s 13) (.s 15), none⟩,
    ⟨.load 0 false 1 (.r 0), none⟩,
    ⟨.mv (.r 1), none⟩] [] [] [(7, 2, none)])
  (.drop [16] []))
  (.seq (.reg [⟨.mv (.s 3), none⟩,
    ⟨.mv (.s 7), none⟩,
    ⟨.mv (.s 5), none⟩,
    ⟨.call .heap n_rel_Rel_Add [(.r 0), (.r 1), (.r 2)], none⟩] [] [] [])
  (.drop [7] []))))
 (.reg [⟨.bin .add (.s 15) (.c (.int .i64 1)), none⟩,
   ⟨.mv (.r 0), none⟩] [] [] [(15, 1, none)])))
def ir_deps_alongl1 : C :=
 .seq (.reg [⟨.bin .lss (.s 11) (.s 10), none⟩] [] [] [(12, 0, none)])
 (.seq (.cond (.s 12) (.skip)
  (.exit 0))
 (.seq (.block 1 (.seq (.seq (.reg [⟨.mv (.s 11), none⟩,
    ⟨.iaS 27 (.s 9) (.s 11), none⟩,
    ⟨.load 0 true 27 (.r 1), none⟩,
    ⟨.lalloc 0 [.int .u64 0, .int .i64 0, .int .i64 0, .int .i64 0, .int .i64 0, .int .i64 0, .bool false, .bool false, .int .i64 0, .int .i64 0, .int .i64 0, .int .u64 0, .int .u64 0, .int .u64 0, .int .u64 0, .bool false, .int .i64 0, .flt 0, .int .i64 0, .int .i64 0, .int .i64 0, .int .i64 0, .int .i64 0, .int .i64 0, .int .i64 0, .int .i64 0, .int .i64 0], none⟩,
    ⟨.mv (.r 0), none⟩,
    ⟨.store 0 27 (.r 3) (.r 2), none⟩] [(true, 0)] [] [(5, 4, none), (6, 3, some 1)])
  (.drop [12] []))
  (.seq (.seq (.reg [⟨.mv (.s 1), none⟩,
    ⟨.mv (.s 5), none⟩,
    ⟨.off 0 (.s 6), none⟩,
    ⟨.off 1 (.r 2), none⟩,
    ⟨.load 0 true 9 (.r 3), none⟩,
    ⟨.mv (.s 4), none⟩,
    ⟨.callv .heap (.r 0) [(.r 1), (.r 4), (.r 5)], none⟩,
    ⟨.call .val n_deps_set_each [(.r 6)], none⟩,
    ⟨.len 1 (.r 7), none⟩,
    ⟨.mv (.c (.int .i64 0)), none⟩] [] [] [(13, 7, none), (14, 8, none), (15, 9, none)])
  (.block 2 (.loop ir_deps_alongl0)))
  (.seq (.reg [⟨.mv (.s 4), none⟩,
    ⟨.mv (.s 5), none⟩,
    ⟨.off 0 (.s 6), none⟩,
    ⟨.off 1 (.r 2), none⟩,
    ⟨.load 0 true 9 (.r 3), none⟩,
    ⟨.call .heap n_deps_roots_behind [(.r 0), (.r 1), (.r 4)], none⟩] [] [] [])
  (.drop [5, 6, 13, 14, 15, 16] [(true, 0)])))))
 (.reg [⟨.bin .add (.s 11) (.c (.int .i64 1)), none⟩,
   ⟨.mv (.r 0), none⟩] [] [] [(11, 1, none)])))
def ir_deps_along : Vm.Fn := ⟨[0, 1, 4, 5, 6, 7, 8, 10, 15, 18, 19, 20, 21, 32, 33, 34, 35], 1, 0, [.slot 2],
 .seq (.seq (.reg [⟨.mv (.c (.nilp)), none⟩] [] [] [(2, 0, none)])
 (.drop [2] []))
 (.seq (.reg [⟨.mv (.s 0), none⟩,
   ⟨.len 1 (.r 0), none⟩,
   ⟨.call .heap n_rel_New [(.r 1)], none⟩,
   ⟨.mv (.r 2), none⟩] [] [] [(3, 3, none)])
 (.seq (.seq (.reg [⟨.mv (.s 3), none⟩,
   ⟨.eqn .ptr false (.r 0) (.c (.nilp)), none⟩] [] [] [(8, 1, none)])
 (.cond (.s 8) (.seq (.seq (.reg [⟨.mv (.c (.nilp)), none⟩] [] [] [(2, 0, none)])
  (.drop [0, 1, 3, 8] []))
  (.ret))
  (.skip)))
 (.seq (.seq (.reg [⟨.build [.int .u64 0, .int .u64 0, .int .u64 0, .int .u64 0, .int .u64 0, .int .u64 0, .int .u64 0, .int .u64 0, .int .u64 0, .int .u64 0, .int .u64 0, .int .u64 0, .int .u64 0, .int .u64 0, .int .u64 0, .int .u64 0, .int .u64 0, .int .u64 0, .int .u64 0, .int .u64 0, .int .u64 0, .int .u64 0, .int .u64 0, .int .u64 0, .int .u64 0, .int .u64 0, .int .u64 0, .int .u64 0, .int .u64 0, .int .u64 0, .int .u64 0, .int .u64 0, .int .u64 0, .int .u64 0, .int .u64 0, .int .u64 0, .int .u64 0, .int .u64 0, .int .u64 0, .int .u64 0, .int .u64 0, .int .u64 0, .int .u64 0, .int .u64 0, .int .u64 0, .int .u64 0, .int .u64 0, .int .u64 0, .int .u64 0, .int .u64 0, .int .u64 0, .int .u64 0, .int .u64 0, .int .u64 0, .int .u64 0, .int .u64 0, .int .u64 0, .int .u64 0, .int .u64 0, .int .u64 0, .int .u64 0, .int .u64 0, .int .u64 0, .int .u64 0, .int .u64 0, .int .u64 0, .int .u64 0, .int .u64 0, .int .u64 0, .int .u64 0, .int .u64 0, .int .u64 0, .int .u64 0, .int .u64 0, .int .u64 0, .int .u64 0, .int .u64 0, .int .u64 0, .int .u64 0, .int .u64 0, .int .u64 0, .int .u64 0, .int .u64 0, .int .u64 0, .int .u64 0, .int .u64 0, .int .u64 0, .int .u64 0, .int .u64 0, .int .u64 0, .int .u64 0, .int .u64 0, .int .u64 0, .int .u64 0, .int .u64 0, .int .u64 0, .int .u64 0, .int .u64 0, .int .u64 0, .int .u64 0, .int .u64 0, .int .u64 0, .int .u64 0, .int .u64 0, .int .u64 0, .int .u64 0, .int .u64 0, .int .u64 0, .int .u64 0, .int .u64 0, .int .u64 0, .int .u64 0, .int .u64 0, .int .u64 0, .int .u64 0, .int .u64 0, .int .u64 0, .int .u64 0, .int .u64 0, .int .u64 0, .int .u64 0, .int .u64 0, .int .u64 0, .int .u64 0, .int .u64 0, .int .u64 0, .int .u64 0, .int .u64 0, .int .u64 0, .int .u64 0, .int .u64 0, .int .u64 0, .int .u64 0, .int .u64 0, .int .u64 0, .int .u64 0, .int .u64 0, .int .u64 0, .int .u64 0, .int .u64 0, .int .u64 0, .int .u64 0, .int .u64 0, .int .u64 0, .int .u64 0, .int .u64 0, .int .u64 0, .int .u64 0, .int .u64 0, .int .u64 0, .int .u64 0, .int .u64 0, .int .u64 0, .int .u64 0, .int .u64 0, .int .u64 0, .int .u64 0, .int .u64 0, .int .u64 0, .int .u64 0, .int .u64 0, .int .u64 0, .int .u64 0, .int .u64 0, .int .u64 0, .int .u64 0, .int .u64 0, .int .u64 0, .int .u64 0, .int .u64 0, .int .u64 0, .int .u64 0, .int .u64 0, .int .u64 0, .int .u64 0, .int .u64 0, .int .u64 0, .int .u64 0, .int .u64 0, .int .u64 0, .int .u64 0, .int .u64 0, .int .u64 0, .int .u64 0, .int .u64 0, .int .u64 0, .int .u64 0, .int .u64 0, .int .u64 0, .int .u64 0, .int .u64 0, .int .u64 0, .int .u64 0, .int .u64 0, .int .u64 0, .int .u64 0, .int .u64 0, .int .u64 0, .int .u64 0, .int .u64 0, .int .u64 0, .int .u64 0, .int .u64 0, .int .u64 0, .int .u64 0, .int .u64 0, .int .u64 0, .int .u64 0, .int .u64 0, .int .u64 0, .int .u64 0, .int .u64 0, .int .u64 0, .int .u64 0, .int .u64 0, .int .u64 0, .int .u64 0, .int .u64 0, .int .u64 0, .int .u64 0, .int .u64 0, .int .u64 0, .int .u64 0, .int .u64 0, .int .u64 0, .int .u64 0, .int .u64 0, .int .u64 0, .int .u64 0, .int .u64 0, .int .u64 0, .int .u64 0, .int .u64 0, .int .u64 0, .int .u64 0, .int .u64 0, .int .u64 0, .int .u64 0, .int .u64 0, .int .u64 0, .int .u64 0, .int .u64 0, .int .u64 0, .int .u64 0, .int .u64 0, .int .u64 0, .int .u64 0, .int .u64 0, .int .u64 0, .int .u64 0, .int .u64 0, .int .u64 0, .int .u64 0, .int .u64 0, .int .u64 0, .int .u64 0] [], none⟩,
   ⟨.hbox 256 (.r 0), none⟩,
   ⟨.mv (.r 1), none⟩] [] [] [(4, 2, none)])
 (.drop [8] []))
 (.seq (.seq (.seq (.reg [⟨.mv (.s 0), none⟩,
   ⟨.len 1 (.r 0), none⟩,
   ⟨.mv (.c (.int .i64 0)), none⟩] [] [] [(9, 0, none), (10, 1, none), (11, 2, none)])
 (.drop [0] []))
 (.block 0 (.loop ir_deps_alongl1)))
 (.seq (.seq (.reg [⟨.mv (.s 3), none⟩,
   ⟨.mv (.r 0), none⟩] [] [] [(2, 1, none)])
 (.drop [1, 3, 4, 9, 10, 11, 12] []))
 (.ret))))))⟩
/-- 54: undertow/deps.Address$1 -/
def h54 : Vm.Hint := ⟨[1, 2, 4, 6, 10], [4, 6], [], [[1, 2], [0, 0, 0, 0], [0, 0], [0, 0, 0, 0, 0]], [([0], []), ([], []), ([1, 2, 4], [(true, 0)]), ([1, 2, 4], [(true, 0)])], []⟩
def ir_deps_Address_1 : Vm.Fn := ⟨[1, 2, 4, 6, 10], 2, 0, [.cell 3 true 8],
 .seq (.seq (.reg [⟨.lbox 0 9 (.s 0), none⟩,
   ⟨.lalloc 1 [.int .u64 0, .int .u64 0, .int .u64 0, .int .u64 0, .int .u64 0, .int .u64 0, .int .u64 0, .int .u64 0], none⟩] [(true, 0), (true, 1)] [] [(2, 0, some 1), (3, 1, some 3)])
 (.drop [0] []))
 (.seq (.seq (.reg [⟨.off 0 (.s 2), none⟩,
   ⟨.load 0 false 1 (.r 0), none⟩,
   ⟨.call .val n_ops_Memory [(.r 1)], none⟩,
   ⟨.un .not (.r 2), none⟩] [] [] [(4, 3, none)])
 (.cond (.s 4) (.seq (.seq (.reg [⟨.build [.int .u64 0, .int .u64 0, .int .u64 0, .int .u64 0, .int .u64 0, .int .u64 0, .int .u64 0, .int .u64 0] [], none⟩,
    ⟨.store 0 8 (.s 3) (.r 0), none⟩] [] [] [])
  (.drop [1, 2, 4] [(true, 0)]))
  (.ret))
  (.skip)))
 (.seq (.seq (.reg [⟨.mv (.s 1), none⟩,
   ⟨.load 0 true 9 (.s 2), none⟩,
   ⟨.call .val n_deps_first [(.r 1)], none⟩,
   ⟨.call .val n_deps_roots_of [(.r 0), (.r 2)], none⟩,
   ⟨.store 0 8 (.s 3) (.r 3), none⟩] [] [] [])
 (.drop [1, 2, 4] [(true, 0)]))
 (.ret)))⟩
/-- 55: (*undertow/deps.roots).of -/
def h55 : Vm.Hint := ⟨[0, 1, 4, 5, 7, 8, 9, 10, 11, 19], [4], [], [[1], [0], [0, 0, 0], [0], [0, 0, 0], [0, 0, 0, 0, 0, 0], [0, 0, 0, 0, 0, 1], [0, 0], [0, 0]], [([], []), ([], []), ([1], []), ([], []), ([8], []), ([], []), ([4, 9], []), ([4, 9], []), ([0, 3, 5, 6, 7, 8], [])], []⟩
def ir_deps_roots_ofl0 : C :=
 .seq (.reg [⟨.bin .lss (.s 7) (.s 6), none⟩] [] [] [(8, 0, none)])
 (.seq (.cond (.s 8) (.skip)
  (.exit 0))
 (.seq (.block 1 (.seq (.seq (.reg [⟨.iaS 1 (.s 5) (.s 7), none⟩,
    ⟨.load 0 false 1 (.r 0), none⟩,
    ⟨.mv (.r 1), none⟩] [] [] [(4, 2, none)])
  (.drop [8] []))
  (.seq (.reg [⟨.mv (.s 4), none⟩,
    ⟨.bin .gtr (.r 0) (.c (.int .i64 0)), none⟩,
    ⟨.mv (.r 1), none⟩,
    ⟨.mv (.s 4), some (2, true)⟩,
    ⟨.bin .lss (.r 3) (.c (.int .i64 32)), some (2, true)⟩,
    ⟨.pick (.r 2) (.r 4) (.c (.bool false)), none⟩] [] [] [(9, 5, none)])
  (.cond (.s 9) (.seq (.reg [⟨.mv (.s 0), none⟩,
     ⟨.mv (.s 4), none⟩,
     ⟨.nilck (.r 0), none⟩,
     ⟨.iaA 32 8 (.r 2) (.r 1), none⟩,
     ⟨.load 0 true 8 (.r 3), none⟩,
     ⟨.call .heap n_deps_set_join [(.s 3), (.r 4)], none⟩] [] [] [])
   (.drop [4, 9] []))
   (.skip)))))
 (.seq (.reg [⟨.bin .add (.s 7) (.c (.int .i64 1)), none⟩,
   ⟨.mv (.r 0), none⟩] [] [] [(7, 1, none)])
 (.drop [4, 9] []))))
def ir_deps_roots_of : Vm.Fn := ⟨[0, 1, 4, 5, 7, 8, 9, 10, 11, 19], 1, 0, [.cell 2 true 8],
 .seq (.reg [⟨.lalloc 0 [.int .u64 0, .int .u64 0, .int .u64 0, .int .u64 0, .int .u64 0, .int .u64 0, .int .u64 0, .int .u64 0], none⟩] [(true, 0)] [] [(2, 0, some 1)])
 (.seq (.reg [⟨.halloc [.int .u64 0, .int .u64 0, .int .u64 0, .int .u64 0, .int .u64 0, .int .u64 0, .int .u64 0, .int .u64 0], none⟩] [] [] [(3, 0, none)])
 (.seq (.seq (.seq (.reg [⟨.mv (.s 1), none⟩,
   ⟨.len 1 (.r 0), none⟩,
   ⟨.mv (.c (.int .i64 0)), none⟩] [] [] [(5, 0, none), (6, 1, none), (7, 2, none)])
 (.drop [1] []))
 (.block 0 (.loop ir_deps_roots_ofl0)))
 (.seq (.seq (.reg [⟨.load 0 true 8 (.s 3), none⟩,
   ⟨.store 0 8 (.s 2) (.r 0), none⟩] [] [] [])
 (.drop [0, 3, 5, 6, 7, 8] []))
 (.ret))))⟩
/-- 56: undertow/deps.first -/
def h56 : Vm.Hint := ⟨[0, 1, 2], [1], [], [[1, 0], [0, 0], [0, 0, 0]], [([0, 2], []), ([], []), ([1], [(true, 0)])], []⟩
def ir_deps_first : Vm.Fn := ⟨[0, 1, 2], 1, 0, [.slot 2],
 .seq (.seq (.reg [⟨.lbox 0 9 (.s 0), none⟩,
   ⟨.mv (.c (.nils)), none⟩] [(true, 0)] [] [(1, 0, some 1), (2, 1, none)])
 (.drop [0, 2] []))
 (.seq (.reg [⟨.off 3 (.s 1), none⟩,
   ⟨.store 0 1 (.r 0) (.c (.int .i64 0)), none⟩] [] [] [])
 (.seq (.seq (.reg [⟨.load 0 true 9 (.s 1), none⟩,
   ⟨.call .val n_ops_Sources [(.r 0)], none⟩,
   ⟨.mv (.r 1), none⟩] [] [] [(2, 2, none)])
 (.drop [1] [(true, 0)]))
 (.ret)))⟩
/-- 57: undertow/deps.Data$1 -/
def h57 : Vm.Hint := ⟨[1, 2, 4, 6, 10], [4, 6], [], [[1, 2], [0, 0, 0, 0], [0, 0], [0, 0, 0, 0, 0]], [([0], []), ([], []), ([1, 2, 4], [(true, 0)]), ([1, 2, 4], [(true, 0)])], []⟩
def ir_deps_Data_1 : Vm.Fn := ⟨[1, 2, 4, 6, 10], 2, 0, [.cell 3 true 8],
 .seq (.seq (.reg [⟨.lbox 0 9 (.s 0), none⟩,
   ⟨.lalloc 1 [.int .u64 0, .int .u64 0, .int .u64 0, .int .u64 0, .int .u64 0, .int .u64 0, .int .u64 0, .int .u64 0], none⟩] [(true, 0), (true, 1)] [] [(2, 0, some 1), (3, 1, some 3)])
 (.drop [0] []))
 (.seq (.seq (.reg [⟨.off 0 (.s 2), none⟩,
   ⟨.load 0 false 1 (.r 0), none⟩,
   ⟨.call .val n_ops_Stores [(.r 1)], none⟩,
   ⟨.un .not (.r 2), none⟩] [] [] [(4, 3, none)])
 (.cond (.s 4) (.seq (.seq (.reg [⟨.build [.int .u64 0, .int .u64 0, .int .u64 0, .int .u64 0, .int .u64 0, .int .u64 0, .int .u64 0, .int .u64 0] [], none⟩,
    ⟨.store 0 8 (.s 3) (.r 0), none⟩] [] [] [])
  (.drop [1, 2, 4] [(true, 0)]))
  (.ret))
  (.skip)))
 (.seq (.seq (.reg [⟨.mv (.s 1), none⟩,
   ⟨.load 0 true 9 (.s 2), none⟩,
   ⟨.call .val n_deps_second [(.r 1)], none⟩,
   ⟨.call .val n_deps_roots_of [(.r 0), (.r 2)], none⟩,
   ⟨.store 0 8 (.s 3) (.r 3), none⟩] [] [] [])
 (.drop [1, 2, 4] [(true, 0)]))
 (.ret)))⟩
/-- 58: undertow/deps.second -/
def h58 : Vm.Hint := ⟨[0, 1, 2], [1], [], [[1, 0], [0, 0], [0, 0, 0]], [([0, 2], []), ([], []), ([1], [(true, 0)])], []⟩
def ir_deps_second : Vm.Fn := ⟨[0, 1, 2], 1, 0, [.slot 2],
 .seq (.seq (.reg [⟨.lbox 0 9 (.s 0), none⟩,
   ⟨.mv (.c (.nils)), none⟩] [(true, 0)] [] [(1, 0, some 1), (2, 1, none)])
 (.drop [0, 2] []))
 (.seq (.reg [⟨.off 2 (.s 1), none⟩,
   ⟨.store 0 1 (.r 0) (.c (.int .i64 0)), none⟩] [] [] [])
 (.seq (.seq (.reg [⟨.load 0 true 9 (.s 1), none⟩,
   ⟨.call .val n_ops_Sources [(.r 0)], none⟩,
   ⟨.mv (.r 1), none⟩] [] [] [(2, 2, none)])
 (.drop [1] [(true, 0)]))
 (.ret)))⟩
/-- 59: undertow/deps.Course$1 -/
def h59 : Vm.Hint := ⟨[1, 2, 3, 5, 7, 8, 18], [5, 7, 8], [], [[1, 2], [0, 3, 0], [0, 0, 0, 0, 0, 0, 0, 0, 0], [0, 0, 0, 0, 1], [0, 0]], [([0], []), ([], []), ([], []), ([1, 3, 6], [(true, 0)]), ([1, 3, 5, 6], [(true, 2), (true, 0)])], []⟩
def ir_deps_Course_1 : Vm.Fn := ⟨[1, 2, 3, 5, 7, 8, 18], 3, 0, [.cell 4 true 8],
 .seq (.seq (.reg [⟨.lbox 0 9 (.s 0), none⟩,
   ⟨.lalloc 1 [.int .u64 0, .int .u64 0, .int .u64 0, .int .u64 0, .int .u64 0, .int .u64 0, .int .u64 0, .int .u64 0], none⟩] [(true, 0), (true, 1)] [] [(3, 0, some 1), (4, 1, some 3)])
 (.drop [0] []))
 (.seq (.reg [⟨.load 0 true 8 (.s 2), none⟩,
   ⟨.lalloc 2 [.int .u64 0, .int .u64 0, .int .u64 0, .int .u64 0, .int .u64 0, .int .u64 0, .int .u64 0, .int .u64 0], none⟩,
   ⟨.store 0 8 (.r 1) (.r 0), none⟩] [(true, 2)] [] [(5, 1, some 5)])
 (.seq (.seq (.reg [⟨.off 0 (.s 3), none⟩,
   ⟨.load 0 false 1 (.r 0), none⟩,
   ⟨.call .val n_ops_Sort [(.r 1)], none⟩,
   ⟨.bin .eql (.r 2) (.c (.int .i64 3)), none⟩,
   ⟨.mv (.r 3), none⟩,
   ⟨.off 0 (.s 3), some (4, false)⟩,
   ⟨.load 0 false 1 (.r 5), some (4, false)⟩,
   ⟨.bin .eql (.r 6) (.c (.int .i64 4)), some (4, false)⟩,
   ⟨.pick (.r 4) (.c (.bool true)) (.r 7), none⟩] [] [] [(6, 8, none)])
 (.cond (.s 6) (.seq (.reg [⟨.mv (.s 1), none⟩,
    ⟨.load 0 true 9 (.s 3), none⟩,
    ⟨.call .val n_ops_Sources [(.r 1)], none⟩,
    ⟨.call .val n_deps_roots_of [(.r 0), (.r 2)], none⟩,
    ⟨.call .heap n_deps_set_join [(.s 2), (.r 3)], none⟩] [] [] [])
  (.drop [1, 3, 6] [(true, 0)]))
  (.skip)))
 (.seq (.seq (.reg [⟨.load 0 true 8 (.s 5), none⟩,
   ⟨.store 0 8 (.s 4) (.r 0), none⟩] [] [] [])
 (.drop [1, 3, 5, 6] [(true, 2), (true, 0)]))
 (.ret))))⟩
/-- 60: (*undertow/deps.set).join -/
def h60 : Vm.Hint := ⟨[0, 1, 3, 4, 5, 6, 7, 8], [3], [], [[1], [0, 0], [0], [0, 0, 0, 0], [0, 0, 0, 0, 0, 0, 0, 0, 0, 0], [0, 0]], [([1], []), ([2], [(true, 0)]), ([], []), ([7], []), ([3, 4], []), ([], [])], []⟩
def ir_deps_set_joinl0 : C :=
 .seq (.reg [⟨.bin .lss (.s 6) (.c (.int .i64 8)), none⟩] [] [] [(7, 0, none)])
 (.seq (.cond (.s 7) (.skip)
  (.exit 0))
 (.seq (.block 1 (.seq (.seq (.reg [⟨.mv (.s 6), none⟩,
    ⟨.ixA 8 1 false (.s 5) (.s 6), none⟩,
    ⟨.mv (.r 0), none⟩,
    ⟨.mv (.r 1), none⟩] [] [] [(3, 2, none), (4, 3, none)])
  (.drop [7] []))
  (.seq (.reg [⟨.mv (.s 0), none⟩,
    ⟨.mv (.s 3), none⟩,
    ⟨.nilck (.r 0), none⟩,
    ⟨.iaA 8 1 (.r 2) (.r 1), none⟩,
    ⟨.load 0 false 1 (.r 3), none⟩,
    ⟨.mv (.s 4), none⟩,
    ⟨.bin .or (.r 4) (.r 5), none⟩,
    ⟨.nilck (.r 0), none⟩,
    ⟨.iaA 8 1 (.r 7) (.r 1), none⟩,
    ⟨.store 0 1 (.r 8) (.r 6), none⟩] [] [] [])
  (.drop [3, 4] []))))
 (.reg [⟨.bin .add (.s 6) (.c (.int .i64 1)), none⟩,
   ⟨.mv (.r 0), none⟩] [] [] [(6, 1, none)])))
def ir_deps_set_join : Vm.Fn := ⟨[0, 1, 3, 4, 5, 6, 7, 8], 1, 0, [],
 .seq (.seq (.reg [⟨.lbox 0 8 (.s 1), none⟩] [(true, 0)] [] [(2, 0, some 1)])
 (.drop [1] []))
 (.seq (.seq (.reg [⟨.load 0 true 8 (.s 2), none⟩,
   ⟨.mv (.c (.int .i64 0)), none⟩] [] [] [(5, 0, none), (6, 1, none)])
 (.drop [2] [(true, 0)]))
 (.block 0 (.loop ir_deps_set_joinl0)))⟩
/-- 61: undertow/ops.Sources -/
def h61 : Vm.Hint := ⟨[0, 1, 2, 3, 4, 6, 9, 10, 23, 31, 35, 40, 41, 42, 43, 47], [1], [4], [[1, 0], [0], [0, 0, 0], [0, 0], [0, 0], [0, 0], [0, 0], [0, 0], [0, 0, 0, 0, 0, 0, 0, 0], [0, 0], [0, 0], [0, 0], [0, 0, 0, 0, 0], [0, 0], [0, 0, 0], [0, 0, 0, 0, 0], [1], [0, 0, 0], [0], [0, 0, 0], [0, 0], [0, 0, 1, 2, 0], [0, 0], [0, 0]], [([0, 2], []), ([], []), ([], []), ([], []), ([], []), ([], []), ([], []), ([], []), ([1, 6, 7], [(true, 0)]), ([7], []), ([], []), ([], []), ([1, 6, 8], [(true, 0)]), ([6, 8], []), ([9], []), ([1, 10], [(true, 0)]), ([1, 9, 10], [(true, 0)]), ([3], []), ([], []), ([14], []), ([], []), ([5, 15], []), ([5, 15], []), ([4, 11, 12, 13, 14], [(false, 0)])], []⟩
def ir_ops_Sourcesl0 : C :=
 .seq (.reg [⟨.bin .lss (.s 13) (.s 12), none⟩] [] [] [(14, 0, none)])
 (.seq (.cond (.s 14) (.skip)
  (.exit 1))
 (.seq (.block 2 (.seq (.seq (.reg [⟨.iaS 1 (.s 11) (.s 13), none⟩,
    ⟨.load 0 false 1 (.r 0), none⟩,
    ⟨.mv (.r 1), none⟩] [] [] [(5, 2, none)])
  (.drop [14] []))
  (.seq (.reg [⟨.mv (.s 5), none⟩,
    ⟨.bin .neq (.r 0) (.c (.int .i64 0)), none⟩] [] [] [(15, 1, none)])
  (.cond (.s 15) (.seq (.reg [⟨.mv (.s 4), none⟩,
     ⟨.mv (.s 5), none⟩,
     ⟨.lit 1 1 [[.int .i64 0]] [(0, (.r 1))], none⟩,
     ⟨.app 2 1 8 (.r 0) (.r 2), none⟩,
     ⟨.mv (.r 3), none⟩] [] [] [(4, 4, some 0)])
   (.drop [5, 15] []))
   (.skip)))))
 (.seq (.reg [⟨.bin .add (.s 13) (.c (.int .i64 1)), none⟩,
   ⟨.mv (.r 0), none⟩] [] [] [(13, 1, none)])
 (.drop [5, 15] []))))
def ir_ops_Sources : Vm.Fn := ⟨[0, 1, 2, 3, 4, 6, 9, 10, 23, 31, 35, 40, 41, 42, 43, 47], 1, 1, [.slot 2],
 .seq (.seq (.reg [⟨.lbox 0 9 (.s 0), none⟩,
   ⟨.mv (.c (.nils)), none⟩] [(true, 0)] [] [(1, 0, some 1), (2, 1, none)])
 (.drop [0, 2] []))
 (.seq (.reg [⟨.mv (.c (.nils)), none⟩] [] [] [(3, 0, none)])
 (.seq (.seq (.reg [⟨.off 0 (.s 1), none⟩,
   ⟨.load 0 false 1 (.r 0), none⟩,
   ⟨.call .val n_ops_Sort [(.r 1)], none⟩] [] [] [(6, 2, none)])
 (.block 0 (.seq (.seq (.reg [⟨.bin .eql (.s 6) (.c (.int .i64 3)), none⟩,
    ⟨.mv (.r 0), none⟩] [] [] [(7, 1, none)])
  (.cond (.s 7) (.skip)
   (.seq (.reg [⟨.bin .eql (.s 6) (.c (.int .i64 5)), none⟩,
     ⟨.mv (.r 0), none⟩] [] [] [(7, 1, none)])
   (.cond (.s 7) (.skip)
    (.seq (.reg [⟨.bin .eql (.s 6) (.c (.int .i64 7)), none⟩,
      ⟨.mv (.r 0), none⟩] [] [] [(7, 1, none)])
    (.cond (.s 7) (.skip)
     (.seq (.reg [⟨.bin .eql (.s 6) (.c (.int .i64 11)), none⟩,
       ⟨.mv (.r 0), none⟩] [] [] [(7, 1, none)])
     (.cond (.s 7) (.skip)
      (.reg [⟨.bin .eql (.s 6) (.c (.int .i64 12)), none⟩,
        ⟨.mv (.r 0), none⟩] [] [] [(7, 1, none)])))))))))
  (.cond (.s 7) (.seq (.reg [⟨.off 2 (.s 1), none⟩,
     ⟨.load 0 false 1 (.r 0), none⟩,
     ⟨.call .val n_ops_register [(.r 1)], none⟩,
     ⟨.off 3 (.s 1), none⟩,
     ⟨.load 0 false 1 (.r 3), none⟩,
     ⟨.call .val n_ops_register [(.r 4)], none⟩,
     ⟨.lit 0 1 [[.int .i64 0], [.int .i64 0]] [(0, (.r 2)), (1, (.r 5))], none⟩,
     ⟨.mv (.r 6), none⟩] [] [(1, 4), (2, 4)] [(3, 7, none)])
   (.drop [1, 6, 7] [(true, 0)]))
   (.seq (.seq (.seq (.reg [⟨.bin .eql (.s 6) (.c (.int .i64 4)), none⟩,
     ⟨.mv (.r 0), none⟩] [] [] [(8, 1, none)])
   (.drop [7] []))
   (.cond (.s 8) (.skip)
    (.seq (.reg [⟨.bin .eql (.s 6) (.c (.int .i64 6)), none⟩,
      ⟨.mv (.r 0), none⟩] [] [] [(8, 1, none)])
    (.cond (.s 8) (.skip)
     (.reg [⟨.bin .eql (.s 6) (.c (.int .i64 10)), none⟩,
       ⟨.mv (.r 0), none⟩] [] [] [(8, 1, none)])))))
   (.cond (.s 8) (.seq (.reg [⟨.off 2 (.s 1), none⟩,
      ⟨.load 0 false 1 (.r 0), none⟩,
      ⟨.call .val n_ops_register [(.r 1)], none⟩,
      ⟨.lit 0 1 [[.int .i64 0]] [(0, (.r 2))], none⟩,
      ⟨.mv (.r 3), none⟩] [] [] [(3, 4, none)])
    (.drop [1, 6, 8] [(true, 0)]))
    (.seq (.seq (.reg [⟨.bin .eql (.s 6) (.c (.int .i64 2)), none⟩,
      ⟨.mv (.r 0), none⟩] [] [] [(9, 1, none)])
    (.drop [6, 8] []))
    (.cond (.s 9) (.seq (.seq (.reg [⟨.off 0 (.s 1), none⟩,
       ⟨.load 0 false 1 (.r 0), none⟩,
       ⟨.bin .eql (.r 1) (.c (.int .i64 4)), none⟩] [] [] [(10, 2, none)])
     (.drop [9] []))
     (.cond (.s 10) (.seq (.reg [⟨.off 2 (.s 1), none⟩,
        ⟨.load 0 false 1 (.r 0), none⟩,
        ⟨.call .val n_ops_register [(.r 1)], none⟩,
        ⟨.lit 0 1 [[.int .i64 0]] [(0, (.r 2))], none⟩,
        ⟨.mv (.r 3), none⟩] [] [] [(3, 4, none)])
      (.drop [1, 10] [(true, 0)]))
      (.skip)))
     (.skip)))))))))
 (.seq (.seq (.reg [⟨.onil 0, none⟩] [(false, 0)] [] [(4, 0, some 0)])
 (.drop [1, 9, 10] [(true, 0)]))
 (.seq (.seq (.seq (.reg [⟨.mv (.s 3), none⟩,
   ⟨.len 1 (.r 0), none⟩,
   ⟨.mv (.c (.int .i64 0)), none⟩] [] [] [(11, 0, none), (12, 1, none), (13, 2, none)])
 (.drop [3] []))
 (.block 1 (.loop ir_ops_Sourcesl0)))
 (.seq (.seq (.reg [⟨.mv (.s 4), none⟩,
   ⟨.mv (.r 0), none⟩] [] [] [(2, 1, none)])
 (.drop [4, 11, 12, 13, 14] [(false, 0)]))
 (.ret))))))⟩
/-- 62: undertow/ppo.overlap -/
def h62 : Vm.Hint := ⟨[0, 1, 2, 3, 4], [2, 3], [], [[1, 2, 0], [0, 0, 0, 0, 0, 0, 0, 0, 0, 0]], [([0, 1, 4], []), ([2, 3], [(true, 0), (true, 1)])], []⟩
def ir_ppo_overlap : Vm.Fn := ⟨[0, 1, 2, 3, 4], 2, 0, [.slot 4],
 .seq (.seq (.reg [⟨.lbox 0 33 (.s 0), none⟩,
   ⟨.lbox 1 33 (.s 1), none⟩,
   ⟨.mv (.c (.bool false)), none⟩] [(true, 0), (true, 1)] [] [(2, 0, some 1), (3, 1, some 3), (4, 2, none)])
 (.drop [0, 1, 4] []))
 (.seq (.seq (.reg [⟨.off 31 (.s 2), none⟩,
   ⟨.load 0 false 1 (.r 0), none⟩,
   ⟨.off 32 (.s 2), none⟩,
   ⟨.load 0 false 1 (.r 2), none⟩,
   ⟨.off 31 (.s 3), none⟩,
   ⟨.load 0 false 1 (.r 4), none⟩,
   ⟨.off 32 (.s 3), none⟩,
   ⟨.load 0 false 1 (.r 6), none⟩,
   ⟨.call .val n_word_Overlap [(.r 1), (.r 3), (.r 5), (.r 7)], none⟩,
   ⟨.mv (.r 8), none⟩] [] [] [(4, 9, none)])
 (.drop [2, 3] [(true, 0), (true, 1)]))
 (.ret))⟩
/-- 63: undertow/ppo.has -/
def h63 : Vm.Hint := ⟨[0, 1, 2, 4], [2], [], [[1, 0], [0, 0, 0, 0, 0, 0, 0]], [([0, 3], []), ([1, 2], [(true, 0)])], []⟩
def ir_ppo_has : Vm.Fn := ⟨[0, 1, 2, 4], 1, 0, [.slot 3],
 .seq (.seq (.reg [⟨.lbox 0 33 (.s 0), none⟩,
   ⟨.mv (.c (.bool false)), none⟩] [(true, 0)] [] [(2, 0, some 1), (3, 1, none)])
 (.drop [0, 3] []))
 (.seq (.seq (.reg [⟨.off 31 (.s 2), none⟩,
   ⟨.load 0 false 1 (.r 0), none⟩,
   ⟨.off 32 (.s 2), none⟩,
   ⟨.load 0 false 1 (.r 2), none⟩,
   ⟨.mv (.s 1), none⟩,
   ⟨.call .val n_word_Overlap [(.r 1), (.r 3), (.r 4), (.c (.int .i64 1))], none⟩,
   ⟨.mv (.r 5), none⟩] [] [] [(3, 6, none)])
 (.drop [1, 2] [(true, 0)]))
 (.ret))⟩
/-- 64: (*undertow/ppo.view).between -/
def h64 : Vm.Hint := ⟨[0, 1, 2, 6], [], [], [[0], [0, 0, 0, 0, 0, 0, 0, 0, 0]], [([3], []), ([0, 1, 2], [])], []⟩
def ir_ppo_view_between : Vm.Fn := ⟨[0, 1, 2, 6], 0, 0, [.slot 3],
 .seq (.seq (.reg [⟨.mv (.c (.nils)), none⟩] [] [] [(3, 0, none)])
 (.drop [3] []))
 (.seq (.seq (.reg [⟨.mv (.s 0), none⟩,
   ⟨.nilck (.r 0), none⟩,
   ⟨.off 0 (.r 1), none⟩,
   ⟨.load 0 false 1 (.r 2), none⟩,
   ⟨.mv (.s 1), none⟩,
   ⟨.bin .add (.r 4) (.c (.int .i64 1)), none⟩,
   ⟨.mv (.s 2), none⟩,
   ⟨.slc 33 (.r 3) (some (.r 5)) (some (.r 6)) none, none⟩,
   ⟨.mv (.r 7), none⟩] [] [] [(3, 8, none)])
 (.drop [0, 1, 2] []))
 (.ret))⟩
/-- 65: undertow/ppo.returns -/
def h65 : Vm.Hint := ⟨[0, 1, 2, 4], [2], [], [[1, 0], [0, 0, 0, 0, 0, 0, 0, 0, 0, 0, 0, 0]], [([0, 3], []), ([1, 2], [(true, 0)])], []⟩
def ir_ppo_returns : Vm.Fn := ⟨[0, 1, 2, 4], 1, 0, [.slot 3],
 .seq (.seq (.reg [⟨.lbox 0 33 (.s 0), none⟩,
   ⟨.mv (.c (.bool false)), none⟩] [(true, 0)] [] [(2, 0, some 1), (3, 1, none)])
 (.drop [0, 3] []))
 (.seq (.seq (.reg [⟨.off 29 (.s 2), none⟩,
   ⟨.load 0 false 1 (.r 0), none⟩,
   ⟨.mv (.r 1), none⟩,
   ⟨.off 2 (.s 2), some (2, true)⟩,
   ⟨.off 18 (.r 3), some (2, true)⟩,
   ⟨.off 32 (.s 2), some (2, true)⟩,
   ⟨.load 0 false 1 (.r 5), some (2, true)⟩,
   ⟨.slcA 8 1 (.r 4) none (some (.r 6)) none, some (2, true)⟩,
   ⟨.mv (.s 1), some (2, true)⟩,
   ⟨.call .val n_slices_Contains_int_int [(.r 7), (.r 8)], some (2, true)⟩,
   ⟨.pick (.r 2) (.r 9) (.c (.bool false)), none⟩,
   ⟨.mv (.r 10), none⟩] [] [] [(3, 11, none)])
 (.drop [1, 2] [(true, 0)]))
 (.ret))⟩
/-- 66: undertow/ppo.orders -/
def h66 : Vm.Hint := ⟨[0, 1, 2, 3, 4, 5, 6, 7, 8, 11], [3, 4, 5], [], [[1, 2, 3, 0], [0, 0, 0], [0, 0, 0, 0, 0, 0, 0, 0, 0, 0, 0], [0, 0, 0, 0, 0, 0, 0, 0, 0, 0, 0, 0, 0, 0, 0, 0, 0, 0, 0], [0, 0, 0, 0, 0, 0, 0, 0, 0, 0, 0, 0, 0, 0, 0, 0, 0, 0, 0], [0, 0, 0, 0, 0]], [([0, 1, 2, 6], []), ([], []), ([3, 4, 5, 9], [(true, 0), (true, 1), (true, 2)]), ([4, 9], [(true, 1)]), ([3, 5], [(true, 0), (true, 2)]), ([7, 8], [])], []⟩
def ir_ppo_orders : Vm.Fn := ⟨[0, 1, 2, 3, 4, 5, 6, 7, 8, 11], 3, 0, [.slot 6],
 .seq (.seq (.reg [⟨.lbox 0 9 (.s 0), none⟩,
   ⟨.lbox 1 33 (.s 1), none⟩,
   ⟨.lbox 2 33 (.s 2), none⟩,
   ⟨.mv (.c (.bool false)), none⟩] [(true, 0), (true, 1), (true, 2)] [] [(3, 0, some 1), (4, 1, some 3), (5, 2, some 5), (6, 3, none)])
 (.drop [0, 1, 2, 6] []))
 (.seq (.seq (.reg [⟨.off 0 (.s 3), none⟩,
   ⟨.load 0 false 1 (.r 0), none⟩,
   ⟨.bin .eql (.r 1) (.c (.int .i64 51)), none⟩] [] [] [(9, 2, none)])
 (.cond (.s 9) (.seq (.seq (.reg [⟨.off 29 (.s 4), none⟩,
    ⟨.load 0 false 1 (.r 0), none⟩,
    ⟨.mv (.r 1), none⟩,
    ⟨.off 30 (.s 4), some (2, false)⟩,
    ⟨.load 0 false 1 (.r 3), some (2, false)⟩,
    ⟨.mv (.r 4), some (2, false)⟩,
    ⟨.off 30 (.s 5), some (5, true)⟩,
    ⟨.load 0 false 1 (.r 6), some (5, true)⟩,
    ⟨.pick (.r 5) (.r 7) (.c (.bool false)), some (2, false)⟩,
    ⟨.pick (.r 2) (.c (.bool true)) (.r 8), none⟩,
    ⟨.mv (.r 9), none⟩] [] [] [(6, 10, none)])
  (.drop [3, 4, 5, 9] [(true, 0), (true, 1), (true, 2)]))
  (.ret))
  (.skip)))
 (.seq (.seq (.reg [⟨.off 29 (.s 4), none⟩,
   ⟨.load 0 false 1 (.r 0), none⟩,
   ⟨.mv (.r 1), none⟩,
   ⟨.off 7 (.s 3), some (2, true)⟩,
   ⟨.load 0 false 1 (.r 3), some (2, true)⟩,
   ⟨.bin .and (.r 4) (.c (.int .i64 2)), some (2, true)⟩,
   ⟨.bin .neq (.r 5) (.c (.int .i64 0)), some (2, true)⟩,
   ⟨.pick (.r 2) (.r 6) (.c (.bool false)), none⟩,
   ⟨.mv (.r 7), none⟩,
   ⟨.off 30 (.s 4), some (8, false)⟩,
   ⟨.load 0 false 1 (.r 9), some (8, false)⟩,
   ⟨.mv (.r 10), some (8, false)⟩,
   ⟨.off 7 (.s 3), some (11, true)⟩,
   ⟨.load 0 false 1 (.r 12), some (11, true)⟩,
   ⟨.bin .and (.r 13) (.c (.int .i64 1)), some (11, true)⟩,
   ⟨.bin .neq (.r 14) (.c (.int .i64 0)), some (11, true)⟩,
   ⟨.pick (.r 11) (.r 15) (.c (.bool false)), some (8, false)⟩,
   ⟨.pick (.r 8) (.c (.bool true)) (.r 16), none⟩,
   ⟨.mv (.r 17), none⟩] [] [] [(7, 18, none)])
 (.drop [4, 9] [(true, 1)]))
 (.seq (.seq (.reg [⟨.off 29 (.s 5), none⟩,
   ⟨.load 0 false 1 (.r 0), none⟩,
   ⟨.mv (.r 1), none⟩,
   ⟨.off 8 (.s 3), some (2, true)⟩,
   ⟨.load 0 false 1 (.r 3), some (2, true)⟩,
   ⟨.bin .and (.r 4) (.c (.int .i64 2)), some (2, true)⟩,
   ⟨.bin .neq (.r 5) (.c (.int .i64 0)), some (2, true)⟩,
   ⟨.pick (.r 2) (.r 6) (.c (.bool false)), none⟩,
   ⟨.mv (.r 7), none⟩,
   ⟨.off 30 (.s 5), some (8, false)⟩,
   ⟨.load 0 false 1 (.r 9), some (8, false)⟩,
   ⟨.mv (.r 10), some (8, false)⟩,
   ⟨.off 8 (.s 3), some (11, true)⟩,
   ⟨.load 0 false 1 (.r 12), some (11, true)⟩,
   ⟨.bin .and (.r 13) (.c (.int .i64 1)), some (11, true)⟩,
   ⟨.bin .neq (.r 14) (.c (.int .i64 0)), some (11, true)⟩,
   ⟨.pick (.r 11) (.r 15) (.c (.bool false)), some (8, false)⟩,
   ⟨.pick (.r 8) (.c (.bool true)) (.r 16), none⟩,
   ⟨.mv (.r 17), none⟩] [] [] [(8, 18, none)])
 (.drop [3, 5] [(true, 0), (true, 2)]))
 (.seq (.seq (.reg [⟨.mv (.s 7), none⟩,
   ⟨.mv (.r 0), none⟩,
   ⟨.mv (.s 8), some (1, true)⟩,
   ⟨.pick (.r 1) (.r 2) (.c (.bool false)), none⟩,
   ⟨.mv (.r 3), none⟩] [] [] [(6, 4, none)])
 (.drop [7, 8] []))
 (.ret)))))⟩
/-- 67: (undertow/rel.row).add -/
def h67 : Vm.Hint := ⟨[0, 1], [], [], [[0, 0, 0, 0, 0, 0, 0, 0, 0, 0, 0]], [([0, 1], [])], []⟩
def ir_rel_row_add : Vm.Fn := ⟨[0, 1], 0, 0, [],
 .seq (.reg [⟨.mv (.s 0), none⟩,
   ⟨.mv (.s 1), none⟩,
   ⟨.bin .quo (.r 1) (.c (.int .i64 64)), none⟩,
   ⟨.iaS 1 (.r 0) (.r 2), none⟩,
   ⟨.load 0 false 1 (.r 3), none⟩,
   ⟨.mv (.s 1), none⟩,
   ⟨.bin .rem (.r 5) (.c (.int .i64 64)), none⟩,
   ⟨.bin .shl (.c (.int .u64 1)) (.r 6), none⟩,
   ⟨.bin .or (.r 4) (.r 7), none⟩,
   ⟨.iaS 1 (.r 0) (.r 2), none⟩,
   ⟨.store 0 1 (.r 9) (.r 8), none⟩] [] [] [])
 (.drop [0, 1] [])⟩
/-- 68: (undertow/deps.set).each -/
def h68 : Vm.Hint := ⟨[0, 1, 2, 3, 4, 5, 6, 7, 8, 12], [1], [3], [[1, 0], [1], [0, 0], [0], [0, 0, 0, 0], [0, 0], [0, 0, 0, 0, 0], [0, 0, 0, 0, 0, 0, 1, 2, 0], [0, 0], [0, 0]], [([0, 2], []), ([], []), ([1], [(true, 0)]), ([], []), ([8], []), ([], []), ([], []), ([9], []), ([4, 5, 9], []), ([3, 6, 7, 8], [(false, 0)])], []⟩
def ir_deps_set_eachl0 : C :=
 .seq (.seq (.reg [⟨.mv (.s 5), none⟩,
   ⟨.bin .neq (.r 0) (.c (.int .u64 0)), none⟩] [] [] [(9, 1, none)])
 (.cond (.s 9) (.skip)
  (.exit 2)))
 (.seq (.block 3 (.seq (.reg [⟨.mv (.s 3), none⟩,
    ⟨.mv (.s 4), none⟩,
    ⟨.bin .mul (.r 1) (.c (.int .i64 64)), none⟩,
    ⟨.mv (.s 5), none⟩,
    ⟨.call .val n_math_bits_TrailingZeros64 [(.r 3)], none⟩,
    ⟨.bin .add (.r 2) (.r 4), none⟩,
    ⟨.lit 1 1 [[.int .i64 0]] [(0, (.r 5))], none⟩,
    ⟨.app 2 1 8 (.r 0) (.r 6), none⟩,
    ⟨.mv (.r 7), none⟩] [] [] [(3, 8, some 0)])
  (.drop [9] [])))
 (.reg [⟨.mv (.s 5), none⟩,
   ⟨.mv (.s 5), none⟩,
   ⟨.bin .sub (.r 1) (.c (.int .u64 1)), none⟩,
   ⟨.bin .and (.r 0) (.r 2), none⟩,
   ⟨.mv (.r 3), none⟩] [] [] [(5, 4, none)]))
def ir_deps_set_eachl1 : C :=
 .seq (.reg [⟨.bin .lss (.s 7) (.c (.int .i64 8)), none⟩] [] [] [(8, 0, none)])
 (.seq (.cond (.s 8) (.skip)
  (.exit 0))
 (.seq (.block 1 (.seq (.seq (.reg [⟨.mv (.s 7), none⟩,
    ⟨.ixA 8 1 false (.s 6) (.s 7), none⟩,
    ⟨.mv (.r 0), none⟩,
    ⟨.mv (.r 1), none⟩] [] [] [(4, 2, none), (5, 3, none)])
  (.drop [8] []))
  (.block 2 (.loop ir_deps_set_eachl0))))
 (.seq (.reg [⟨.bin .add (.s 7) (.c (.int .i64 1)), none⟩,
   ⟨.mv (.r 0), none⟩] [] [] [(7, 1, none)])
 (.drop [4, 5, 9] []))))
def ir_deps_set_each : Vm.Fn := ⟨[0, 1, 2, 3, 4, 5, 6, 7, 8, 12], 1, 1, [.slot 2],
 .seq (.seq (.reg [⟨.lbox 0 8 (.s 0), none⟩,
   ⟨.mv (.c (.nils)), none⟩] [(true, 0)] [] [(1, 0, some 1), (2, 1, none)])
 (.drop [0, 2] []))
 (.seq (.reg [⟨.onil 0, none⟩] [(false, 0)] [] [(3, 0, some 0)])
 (.seq (.seq (.seq (.reg [⟨.load 0 true 8 (.s 1), none⟩,
   ⟨.mv (.c (.int .i64 0)), none⟩] [] [] [(6, 0, none), (7, 1, none)])
 (.drop [1] [(true, 0)]))
 (.block 0 (.loop ir_deps_set_eachl1)))
 (.seq (.seq (.reg [⟨.mv (.s 3), none⟩,
   ⟨.mv (.r 0), none⟩] [] [] [(2, 1, none)])
 (.drop [3, 6, 7, 8] [(false, 0)]))
 (.ret))))⟩
/-- 69: (*undertow/deps.roots).behind -/
def h69 : Vm.Hint := ⟨[0, 1, 2, 5, 6, 7, 8, 12, 16, 28], [5, 7], [], [[1], [0, 0, 0], [0, 0], [2], [0, 0, 0, 0], [0, 0, 0], [0, 0, 0, 0, 0, 0, 0, 0, 0, 0], [0, 0, 0], [0, 0, 0], [0, 0, 0, 0, 0], [0, 0, 0, 0, 0, 0]], [([2], []), ([], []), ([], []), ([7], []), ([], []), ([], []), ([1, 3, 6, 8], [(true, 0)]), ([1, 8], []), ([6], []), ([3, 6, 9], [(true, 0)]), ([0, 3, 4, 5, 6, 9], [(true, 1), (true, 0)])], []⟩
def ir_deps_roots_behind : Vm.Fn := ⟨[0, 1, 2, 5, 6, 7, 8, 12, 16, 28], 2, 0, [],
 .seq (.seq (.reg [⟨.lbox 0 9 (.s 2), none⟩] [(true, 0)] [] [(3, 0, some 1)])
 (.drop [2] []))
 (.seq (.reg [⟨.load 0 true 9 (.s 3), none⟩,
   ⟨.call .val n_ops_Target [(.r 0)], none⟩,
   ⟨.mv (.r 1), none⟩] [] [] [(4, 2, none)])
 (.seq (.seq (.reg [⟨.mv (.s 4), none⟩,
   ⟨.bin .eql (.r 0) (.c (.int .i64 0)), none⟩] [] [] [(7, 1, none)])
 (.cond (.s 7) (.ret)
  (.skip)))
 (.seq (.seq (.reg [⟨.lalloc 1 [.int .u64 0, .int .u64 0, .int .u64 0, .int .u64 0, .int .u64 0, .int .u64 0, .int .u64 0, .int .u64 0], none⟩] [(true, 1)] [] [(5, 0, some 3)])
 (.drop [7] []))
 (.seq (.seq (.reg [⟨.off 0 (.s 3), none⟩,
   ⟨.load 0 false 1 (.r 0), none⟩,
   ⟨.call .val n_ops_Sort [(.r 1)], none⟩,
   ⟨.mv (.r 2), none⟩] [] [] [(6, 3, none)])
 (.block 0 (.seq (.reg [⟨.load 0 true 9 (.s 3), none⟩,
    ⟨.call .val n_deps_gives [(.r 0)], none⟩,
    ⟨.mv (.r 1), none⟩] [] [] [(8, 2, none)])
  (.cond (.s 8) (.seq (.reg [⟨.mv (.s 1), none⟩,
     ⟨.bin .quo (.r 0) (.c (.int .i64 64)), none⟩,
     ⟨.iaA 8 1 (.s 5) (.r 1), none⟩,
     ⟨.load 0 false 1 (.r 2), none⟩,
     ⟨.mv (.s 1), none⟩,
     ⟨.bin .rem (.r 4) (.c (.int .i64 64)), none⟩,
     ⟨.bin .shl (.c (.int .u64 1)) (.r 5), none⟩,
     ⟨.bin .or (.r 3) (.r 6), none⟩,
     ⟨.iaA 8 1 (.s 5) (.r 1), none⟩,
     ⟨.store 0 1 (.r 8) (.r 7), none⟩] [] [] [])
   (.drop [1, 3, 6, 8] [(true, 0)]))
   (.seq (.seq (.seq (.reg [⟨.mv (.s 6), none⟩,
     ⟨.bin .eql (.r 0) (.c (.int .i64 6)), none⟩,
     ⟨.mv (.r 1), none⟩] [] [] [(9, 2, none)])
   (.drop [1, 8] []))
   (.cond (.s 9) (.skip)
    (.seq (.reg [⟨.mv (.s 6), none⟩,
      ⟨.bin .eql (.r 0) (.c (.int .i64 7)), none⟩,
      ⟨.mv (.r 1), none⟩] [] [] [(9, 2, none)])
    (.drop [6] []))))
   (.cond (.s 9) (.seq (.reg [⟨.mv (.s 0), none⟩,
      ⟨.load 0 true 9 (.s 3), none⟩,
      ⟨.call .val n_ops_Sources [(.r 1)], none⟩,
      ⟨.call .val n_deps_roots_of [(.r 0), (.r 2)], none⟩,
      ⟨.store 0 8 (.s 5) (.r 3), none⟩] [] [] [])
    (.drop [3, 6, 9] [(true, 0)]))
    (.skip)))))))
 (.seq (.reg [⟨.mv (.s 0), none⟩,
   ⟨.mv (.s 4), none⟩,
   ⟨.load 0 true 8 (.s 5), none⟩,
   ⟨.nilck (.r 0), none⟩,
   ⟨.iaA 32 8 (.r 3) (.r 1), none⟩,
   ⟨.store 0 8 (.r 4) (.r 2), none⟩] [] [] [])
 (.drop [0, 3, 4, 5, 6, 9] [(true, 1), (true, 0)]))))))⟩
/-- 70: undertow/ops.register -/
def h70 : Vm.Hint := ⟨[0, 2, 8], [], [], [[0], [0, 0, 0, 0, 0, 0], [0], [0, 0]], [([1], []), ([], []), ([0, 2], []), ([0, 2], [])], []⟩
def ir_ops_register : Vm.Fn := ⟨[0, 2, 8], 0, 0, [.slot 1],
 .seq (.seq (.reg [⟨.mv (.c (.int .i64 0)), none⟩] [] [] [(1, 0, none)])
 (.drop [1] []))
 (.seq (.seq (.reg [⟨.mv (.s 0), none⟩,
   ⟨.bin .lss (.r 0) (.c (.int .i64 0)), none⟩,
   ⟨.mv (.r 1), none⟩,
   ⟨.mv (.s 0), some (2, false)⟩,
   ⟨.bin .gtr (.r 3) (.c (.int .i64 31)), some (2, false)⟩,
   ⟨.pick (.r 2) (.c (.bool true)) (.r 4), none⟩] [] [] [(2, 5, none)])
 (.cond (.s 2) (.seq (.seq (.reg [⟨.mv (.c (.int .i64 0)), none⟩] [] [] [(1, 0, none)])
  (.drop [0, 2] []))
  (.ret))
  (.skip)))
 (.seq (.seq (.reg [⟨.mv (.s 0), none⟩,
   ⟨.mv (.r 0), none⟩] [] [] [(1, 1, none)])
 (.drop [0, 2] []))
 (.ret)))⟩
/-- 71: undertow/word.Overlap -/
def h71 : Vm.Hint := ⟨[0, 1, 2, 3, 8, 9, 10, 11, 21, 22, 23, 24, 26, 27, 28, 36], [], [], [[0], [0, 0, 0, 0, 0, 0, 0, 0, 0, 0], [0], [0], [0, 0], [0], [0, 0], [0, 0], [0], [0, 0], [0, 0, 0, 0, 0, 0, 0], [0], [0, 0], [0, 0], [0, 0]], [], []⟩
def ir_word_Overlapl0 : C :=
 .seq (.reg [⟨.bin .lss (.s 13) (.s 12), none⟩] [] [] [(14, 0, none)])
 (.seq (.cond (.s 14) (.skip)
  (.exit 2))
 (.seq (.block 3 (.seq (.reg [⟨.mv (.s 13), none⟩,
    ⟨.mv (.r 0), none⟩] [] [] [(7, 1, none)])
  (.seq (.reg [⟨.mv (.s 0), none⟩,
    ⟨.mv (.s 6), none⟩,
    ⟨.bin .add (.r 0) (.r 1), none⟩,
    ⟨.mv (.s 2), none⟩,
    ⟨.mv (.s 7), none⟩,
    ⟨.bin .add (.r 3) (.r 4), none⟩,
    ⟨.bin .eql (.r 2) (.r 5), none⟩] [] [] [(15, 6, none)])
  (.cond (.s 15) (.seq (.reg [⟨.mv (.c (.bool true)), none⟩] [] [] [(5, 0, none)])
   (.exit 0))
   (.skip)))))
 (.reg [⟨.bin .add (.s 13) (.c (.int .i64 1)), none⟩,
   ⟨.mv (.r 0), none⟩] [] [] [(13, 1, none)])))
def ir_word_Overlapl1 : C :=
 .seq (.reg [⟨.bin .lss (.s 10) (.s 9), none⟩] [] [] [(11, 0, none)])
 (.seq (.cond (.s 11) (.skip)
  (.exit 0))
 (.seq (.block 1 (.seq (.reg [⟨.mv (.s 10), none⟩,
    ⟨.mv (.r 0), none⟩] [] [] [(6, 1, none)])
  (.seq (.reg [⟨.mv (.s 3), none⟩,
    ⟨.mv (.c (.int .i64 0)), none⟩] [] [] [(12, 0, none), (13, 1, none)])
  (.block 2 (.loop ir_word_Overlapl0)))))
 (.reg [⟨.bin .add (.s 10) (.c (.int .i64 1)), none⟩,
   ⟨.mv (.r 0), none⟩] [] [] [(10, 1, none)])))
def ir_word_Overlap : Vm.Fn := ⟨[0, 1, 2, 3, 8, 9, 10, 11, 21, 22, 23, 24, 26, 27, 28, 36], 0, 0, [.slot 4],
 .seq (.reg [⟨.mv (.c (.bool false)), none⟩] [] [] [(4, 0, none)])
 (.seq (.seq (.reg [⟨.mv (.s 0), none⟩,
   ⟨.mv (.s 1), none⟩,
   ⟨.call .val n_word_isRange [(.r 0), (.r 1)], none⟩,
   ⟨.un .not (.r 2), none⟩,
   ⟨.mv (.r 3), none⟩,
   ⟨.mv (.s 2), some (4, false)⟩,
   ⟨.mv (.s 3), some (4, false)⟩,
   ⟨.call .val n_word_isRange [(.r 5), (.r 6)], some (4, false)⟩,
   ⟨.un .not (.r 7), some (4, false)⟩,
   ⟨.pick (.r 4) (.c (.bool true)) (.r 8), none⟩] [] [] [(8, 9, none)])
 (.cond (.s 8) (.seq (.reg [⟨.mv (.c (.bool false)), none⟩] [] [] [(4, 0, none)])
  (.ret))
  (.skip)))
 (.seq (.reg [⟨.mv (.c (.bool false)), none⟩] [] [] [(5, 0, none)])
 (.seq (.seq (.reg [⟨.mv (.s 1), none⟩,
   ⟨.mv (.c (.int .i64 0)), none⟩] [] [] [(9, 0, none), (10, 1, none)])
 (.block 0 (.loop ir_word_Overlapl1)))
 (.seq (.reg [⟨.mv (.s 5), none⟩,
   ⟨.mv (.r 0), none⟩] [] [] [(4, 1, none)])
 (.ret)))))⟩
/-- 72: slices.Contains[[]int,int] -/
def h72 : Vm.Hint := ⟨[0, 1, 4], [], [], [[0], [0, 0, 0, 0, 0]], [([2], []), ([0, 1], [])], []⟩
def ir_slices_Contains_int_int : Vm.Fn := ⟨[0, 1, 4], 0, 0, [.slot 2],
 .seq (.seq (.reg [⟨.mv (.c (.bool false)), none⟩] [] [] [(2, 0, none)])
 (.drop [2] []))
 (.seq (.seq (.reg [⟨.mv (.s 0), none⟩,
   ⟨.mv (.s 1), none⟩,
   ⟨.call .val n_slices_Index_int_int [(.r 0), (.r 1)], none⟩,
   ⟨.bin .geq (.r 2) (.c (.int .i64 0)), none⟩,
   ⟨.mv (.r 3), none⟩] [] [] [(2, 4, none)])
 (.drop [0, 1] []))
 (.ret))⟩
/-- 73: undertow/ops.Target -/
def h73 : Vm.Hint := ⟨[0, 1, 2, 5, 6], [1], [], [[1, 0], [0, 0, 0], [0, 0], [0, 0], [0, 0], [0, 0], [0, 0], [0], [0, 0, 0, 0]], [([0, 2], []), ([], []), ([], []), ([], []), ([], []), ([], []), ([3], []), ([1, 3, 4], [(true, 0)]), ([1, 3, 4], [(true, 0)])], []⟩
def ir_ops_Target : Vm.Fn := ⟨[0, 1, 2, 5, 6], 1, 0, [.slot 2],
 .seq (.seq (.reg [⟨.lbox 0 9 (.s 0), none⟩,
   ⟨.mv (.c (.int .i64 0)), none⟩] [(true, 0)] [] [(1, 0, some 1), (2, 1, none)])
 (.drop [0, 2] []))
 (.seq (.seq (.reg [⟨.off 0 (.s 1), none⟩,
   ⟨.load 0 false 1 (.r 0), none⟩,
   ⟨.call .val n_ops_Sort [(.r 1)], none⟩] [] [] [(3, 2, none)])
 (.block 0 (.seq (.seq (.reg [⟨.bin .eql (.s 3) (.c (.int .i64 0)), none⟩,
    ⟨.mv (.r 0), none⟩] [] [] [(4, 1, none)])
  (.cond (.s 4) (.skip)
   (.seq (.reg [⟨.bin .eql (.s 3) (.c (.int .i64 3)), none⟩,
     ⟨.mv (.r 0), none⟩] [] [] [(4, 1, none)])
   (.cond (.s 4) (.skip)
    (.seq (.reg [⟨.bin .eql (.s 3) (.c (.int .i64 5)), none⟩,
      ⟨.mv (.r 0), none⟩] [] [] [(4, 1, none)])
    (.cond (.s 4) (.skip)
     (.seq (.reg [⟨.bin .eql (.s 3) (.c (.int .i64 8)), none⟩,
       ⟨.mv (.r 0), none⟩] [] [] [(4, 1, none)])
     (.cond (.s 4) (.skip)
      (.seq (.reg [⟨.bin .eql (.s 3) (.c (.int .i64 9)), none⟩,
        ⟨.mv (.r 0), none⟩] [] [] [(4, 1, none)])
      (.drop [3] []))))))))))
  (.cond (.s 4) (.seq (.seq (.reg [⟨.mv (.c (.int .i64 0)), none⟩] [] [] [(2, 0, none)])
   (.drop [1, 3, 4] [(true, 0)]))
   (.ret))
   (.skip)))))
 (.seq (.seq (.reg [⟨.off 1 (.s 1), none⟩,
   ⟨.load 0 false 1 (.r 0), none⟩,
   ⟨.call .val n_ops_register [(.r 1)], none⟩,
   ⟨.mv (.r 2), none⟩] [] [] [(2, 3, none)])
 (.drop [1, 3, 4] [(true, 0)]))
 (.ret)))⟩
/-- 74: undertow/deps.gives -/
def h74 : Vm.Hint := ⟨[0, 1, 2, 5, 6], [1], [], [[1, 0], [0, 0, 0], [0, 0], [0, 0], [0, 0], [0, 0], [0], [0]], [([0, 2], []), ([1], [(true, 0)]), ([], []), ([], []), ([], []), ([3], []), ([3, 4], []), ([3, 4], [])], []⟩
def ir_deps_gives : Vm.Fn := ⟨[0, 1, 2, 5, 6], 1, 0, [.slot 2],
 .seq (.seq (.reg [⟨.lbox 0 9 (.s 0), none⟩,
   ⟨.mv (.c (.bool false)), none⟩] [(true, 0)] [] [(1, 0, some 1), (2, 1, none)])
 (.drop [0, 2] []))
 (.seq (.seq (.seq (.reg [⟨.off 0 (.s 1), none⟩,
   ⟨.load 0 false 1 (.r 0), none⟩,
   ⟨.call .val n_ops_Sort [(.r 1)], none⟩] [] [] [(3, 2, none)])
 (.drop [1] [(true, 0)]))
 (.block 0 (.seq (.seq (.reg [⟨.bin .eql (.s 3) (.c (.int .i64 4)), none⟩,
    ⟨.mv (.r 0), none⟩] [] [] [(4, 1, none)])
  (.cond (.s 4) (.skip)
   (.seq (.reg [⟨.bin .eql (.s 3) (.c (.int .i64 10)), none⟩,
     ⟨.mv (.r 0), none⟩] [] [] [(4, 1, none)])
   (.cond (.s 4) (.skip)
    (.seq (.reg [⟨.bin .eql (.s 3) (.c (.int .i64 11)), none⟩,
      ⟨.mv (.r 0), none⟩] [] [] [(4, 1, none)])
    (.cond (.s 4) (.skip)
     (.seq (.reg [⟨.bin .eql (.s 3) (.c (.int .i64 12)), none⟩,
       ⟨.mv (.r 0), none⟩] [] [] [(4, 1, none)])
     (.drop [3] []))))))))
  (.cond (.s 4) (.seq (.seq (.reg [⟨.mv (.c (.bool true)), none⟩] [] [] [(2, 0, none)])
   (.drop [3, 4] []))
   (.ret))
   (.skip)))))
 (.seq (.seq (.reg [⟨.mv (.c (.bool false)), none⟩] [] [] [(2, 0, none)])
 (.drop [3, 4] []))
 (.ret)))⟩
/-- 75: undertow/word.isRange -/
def h75 : Vm.Hint := ⟨[0, 1, 4], [], [], [[0], [0, 0, 0, 0, 0, 0, 0, 0, 0, 0, 0, 0, 0, 0, 0]], [], []⟩
def ir_word_isRange : Vm.Fn := ⟨[0, 1, 4], 0, 0, [.slot 2],
 .seq (.reg [⟨.mv (.c (.bool false)), none⟩] [] [] [(2, 0, none)])
 (.seq (.reg [⟨.mv (.s 0), none⟩,
   ⟨.bin .geq (.r 0) (.c (.int .i64 0)), none⟩,
   ⟨.mv (.r 1), none⟩,
   ⟨.mv (.s 0), some (2, true)⟩,
   ⟨.bin .leq (.r 3) (.c (.int .i64 1099511627776)), some (2, true)⟩,
   ⟨.pick (.r 2) (.r 4) (.c (.bool false)), none⟩,
   ⟨.mv (.r 5), none⟩,
   ⟨.mv (.s 1), some (6, true)⟩,
   ⟨.bin .geq (.r 7) (.c (.int .i64 1)), some (6, true)⟩,
   ⟨.pick (.r 6) (.r 8) (.c (.bool false)), none⟩,
   ⟨.mv (.r 9), none⟩,
   ⟨.mv (.s 1), some (10, true)⟩,
   ⟨.bin .leq (.r 11) (.c (.int .i64 8)), some (10, true)⟩,
   ⟨.pick (.r 10) (.r 12) (.c (.bool false)), none⟩,
   ⟨.mv (.r 13), none⟩] [] [] [(2, 14, none)])
 (.ret))⟩
/-- 76: slices.Index[[]int,int] -/
def h76 : Vm.Hint := ⟨[0, 1, 4, 5, 7, 8, 9, 16], [], [], [[0], [0, 0, 0], [0], [0, 0], [0, 0, 0, 0, 0, 0], [0, 0], [0, 0], [0]], [([2], []), ([], []), ([], []), ([6], []), ([], []), ([0, 1, 3, 4, 5, 7], []), ([3, 7], []), ([0, 1, 4, 5, 6], [])], []⟩
def ir_slices_Index_int_intl0 : C :=
 .seq (.reg [⟨.bin .lss (.s 5) (.s 4), none⟩] [] [] [(6, 0, none)])
 (.seq (.cond (.s 6) (.skip)
  (.exit 0))
 (.seq (.block 1 (.seq (.seq (.reg [⟨.mv (.s 5), none⟩,
    ⟨.mv (.r 0), none⟩] [] [] [(3, 1, none)])
  (.drop [6] []))
  (.seq (.reg [⟨.mv (.s 1), none⟩,
    ⟨.mv (.s 0), none⟩,
    ⟨.mv (.s 3), none⟩,
    ⟨.iaS 1 (.r 1) (.r 2), none⟩,
    ⟨.load 0 false 1 (.r 3), none⟩,
    ⟨.bin .eql (.r 0) (.r 4), none⟩] [] [] [(7, 5, none)])
  (.cond (.s 7) (.seq (.seq (.reg [⟨.mv (.s 3), none⟩,
     ⟨.mv (.r 0), none⟩] [] [] [(2, 1, none)])
   (.drop [0, 1, 3, 4, 5, 7] []))
   (.ret))
   (.skip)))))
 (.seq (.reg [⟨.bin .add (.s 5) (.c (.int .i64 1)), none⟩,
   ⟨.mv (.r 0), none⟩] [] [] [(5, 1, none)])
 (.drop [3, 7] []))))
def ir_slices_Index_int_int : Vm.Fn := ⟨[0, 1, 4, 5, 7, 8, 9, 16], 0, 0, [.slot 2],
 .seq (.seq (.reg [⟨.mv (.c (.int .i64 0)), none⟩] [] [] [(2, 0, none)])
 (.drop [2] []))
 (.seq (.seq (.reg [⟨.mv (.s 0), none⟩,
   ⟨.len 1 (.r 0), none⟩,
   ⟨.mv (.c (.int .i64 0)), none⟩] [] [] [(4, 1, none), (5, 2, none)])
 (.block 0 (.loop ir_slices_Index_int_intl0)))
 (.seq (.seq (.reg [⟨.mv (.c (.int .i64 (-1))), none⟩] [] [] [(2, 0, none)])
 (.drop [0, 1, 4, 5, 6] []))
 (.ret)))⟩
def hints (f : Nat) : Option Vm.Hint := if f < 40 then (if f < 21 then (if f < 12 then (if f < 7 then (if f < 5 then (if f < 4 then (if f = 3 then some h3 else none) else (if f = 4 then some h4 else none)) else (if f < 6 then (if f = 5 then some h5 else none) else (if f = 6 then some h6 else none))) else (if f < 9 then (if f < 8 then (if f = 7 then some h7 else none) else (if f = 8 then some h8 else none)) else (if f < 10 then (if f = 9 then some h9 else none) else (if f < 11 then (if f = 10 then some h10 else none) else (if f = 11 then some h11 else none))))) else (if f < 16 then (if f < 14 then (if f < 13 then (if f = 12 then some h12 else none) else (if f = 13 then some h13 else none)) else (if f < 15 then (if f = 14 then some h14 else none) else (if f = 15 then some h15 else none))) else (if f < 18 then (if f < 17 then (if f = 16 then some h16 else none) else (if f = 17 then some h17 else none)) else (if f < 19 then (if f = 18 then some h18 else none) else (if f < 20 then (if f = 19 then some h19 else none) else (if f = 20 then some h20 else none)))))) else (if f < 30 then (if f < 25 then (if f < 23 then (if f < 22 then (if f = 21 then some h21 else none) else (if f = 22 then some h22 else none)) else (if f < 24 then (if f = 23 then some h23 else none) else (if f = 24 then some h24 else none))) else (if f < 27 then (if f < 26 then (if f = 25 then some h25 else none) else (if f = 26 then some h26 else none)) else (if f < 28 then (if f = 27 then some h27 else none) else (if f < 29 then (if f = 28 then some h28 else none) else (if f = 29 then some h29 else none))))) else (if f < 35 then (if f < 32 then (if f < 31 then (if f = 30 then some h30 else none) else (if f = 31 then some h31 else none)) else (if f < 33 then (if f = 32 then some h32 else none) else (if f < 34 then (if f = 33 then some h33 else none) else (if f = 34 then some h34 else none)))) else (if f < 37 then (if f < 36 then (if f = 35 then some h35 else none) else (if f = 36 then some h36 else none)) else (if f < 38 then (if f = 37 then some h37 else none) else (if f < 39 then (if f = 38 then some h38 else none) else (if f = 39 then some h39 else none))))))) else (if f < 58 then (if f < 49 then (if f < 44 then (if f < 42 then (if f < 41 then (if f = 40 then some h40 else none) else (if f = 41 then some h41 else none)) else (if f < 43 then (if f = 42 then some h42 else none) else (if f = 43 then some h43 else none))) else (if f < 46 then (if f < 45 then (if f = 44 then some h44 else none) else (if f = 45 then some h45 else none)) else (if f < 47 then (if f = 46 then some h46 else none) else (if f < 48 then (if f = 47 then some h47 else none) else (if f = 48 then some h48 else none))))) else (if f < 53 then (if f < 51 then (if f < 50 then (if f = 49 then some h49 else none) else (if f = 50 then some h50 else none)) else (if f < 52 then (if f = 51 then some h51 else none) else (if f = 52 then some h52 else none))) else (if f < 55 then (if f < 54 then (if f = 53 then some h53 else none) else (if f = 54 then some h54 else none)) else (if f < 56 then (if f = 55 then some h55 else none) else (if f < 57 then (if f = 56 then some h56 else none) else (if f = 57 then some h57 else none)))))) else (if f < 67 then (if f < 62 then (if f < 60 then (if f < 59 then (if f = 58 then some h58 else none) else (if f = 59 then some h59 else none)) else (if f < 61 then (if f = 60 then some h60 else none) else (if f = 61 then some h61 else none))) else (if f < 64 then (if f < 63 then (if f = 62 then some h62 else none) else (if f = 63 then some h63 else none)) else (if f < 65 then (if f = 64 then some h64 else none) else (if f < 66 then (if f = 65 then some h65 else none) else (if f = 66 then some h66 else none))))) else (if f < 72 then (if f < 69 then (if f < 68 then (if f = 67 then some h67 else none) else (if f = 68 then some h68 else none)) else (if f < 70 then (if f = 69 then some h69 else none) else (if f < 71 then (if f = 70 then some h70 else none) else (if f = 71 then some h71 else none)))) else (if f < 74 then (if f < 73 then (if f = 72 then some h72 else none) else (if f = 73 then some h73 else none)) else (if f < 75 then (if f = 74 then some h74 else none) else (if f < 76 then (if f = 75 then some h75 else none) else (if f = 76 then some h76 else none)))))))
noncomputable abbrev pg : Vm.Pg := pgOf Go.Proofs.Tryd.prog hints glT
theorem fn_undertowlaw22_PpoAhead : pg.fn 3 = some ir_undertowlaw22_PpoAhead := by kernel_rfl
theorem fn_undertowlaw22_PpoMore : pg.fn 4 = some ir_undertowlaw22_PpoMore := by kernel_rfl
theorem fn_undertowlaw22_PpoFree : pg.fn 5 = some ir_undertowlaw22_PpoFree := by kernel_rfl
theorem fn_undertowlaw22_PpoCut : pg.fn 6 = some ir_undertowlaw22_PpoCut := by kernel_rfl
theorem fn_undertowlaw22_alive : pg.fn 7 = some ir_undertowlaw22_alive := by kernel_rfl
theorem fn_undertowref20_Great : pg.fn 8 = some ir_undertowref20_Great := by kernel_rfl
theorem fn_cand_Events : pg.fn 9 = some ir_cand_Events := by kernel_rfl
theorem fn_ppo_All : pg.fn 10 = some ir_ppo_All := by kernel_rfl
theorem fn_rel_Rel_Pairs : pg.fn 11 = some ir_rel_Rel_Pairs := by kernel_rfl
theorem fn_rel_Rel_Len : pg.fn 12 = some ir_rel_Rel_Len := by kernel_rfl
theorem fn_rel_Rel_Has : pg.fn 13 = some ir_rel_Rel_Has := by kernel_rfl
theorem fn_undertowlaw22_one : pg.fn 14 = some ir_undertowlaw22_one := by kernel_rfl
theorem fn_undertowref05_Sort : pg.fn 15 = some ir_undertowref05_Sort := by kernel_rfl
theorem fn_ppo_Rule : pg.fn 16 = some ir_ppo_Rule := by kernel_rfl
theorem fn_cand_isEvent : pg.fn 17 = some ir_cand_isEvent := by kernel_rfl
theorem fn_ops_Loads : pg.fn 18 = some ir_ops_Loads := by kernel_rfl
theorem fn_ops_Stores : pg.fn 19 = some ir_ops_Stores := by kernel_rfl
theorem fn_ops_Size : pg.fn 20 = some ir_ops_Size := by kernel_rfl
theorem fn_ppo_look : pg.fn 21 = some ir_ppo_look := by kernel_rfl
theorem fn_rel_New : pg.fn 22 = some ir_rel_New := by kernel_rfl
theorem fn_ppo_rules : pg.fn 23 = some ir_ppo_rules := by kernel_rfl
theorem fn_ppo_view_into : pg.fn 24 = some ir_ppo_view_into := by kernel_rfl
theorem fn_rel_row_each : pg.fn 25 = some ir_rel_row_each := by kernel_rfl
theorem fn_rel_Rel_is : pg.fn 26 = some ir_rel_Rel_is := by kernel_rfl
theorem fn_rel_row_has : pg.fn 27 = some ir_rel_row_has := by kernel_rfl
theorem fn_ops_Memory : pg.fn 28 = some ir_ops_Memory := by kernel_rfl
theorem fn_ops_Sort : pg.fn 29 = some ir_ops_Sort := by kernel_rfl
theorem fn_deps_Address : pg.fn 30 = some ir_deps_Address := by kernel_rfl
theorem fn_deps_Data : pg.fn 31 = some ir_deps_Data := by kernel_rfl
theorem fn_deps_Course : pg.fn 32 = some ir_deps_Course := by kernel_rfl
theorem fn_ppo_view_same : pg.fn 33 = some ir_ppo_view_same := by kernel_rfl
theorem fn_ppo_view_loads : pg.fn 34 = some ir_ppo_view_loads := by kernel_rfl
theorem fn_ppo_view_written : pg.fn 35 = some ir_ppo_view_written := by kernel_rfl
theorem fn_ppo_view_fenced : pg.fn 36 = some ir_ppo_view_fenced := by kernel_rfl
theorem fn_ppo_rules_1 : pg.fn 37 = some ir_ppo_rules_1 := by kernel_rfl
theorem fn_ppo_rules_2 : pg.fn 38 = some ir_ppo_rules_2 := by kernel_rfl
theorem fn_ppo_rules_3 : pg.fn 39 = some ir_ppo_rules_3 := by kernel_rfl
theorem fn_ppo_strong : pg.fn 40 = some ir_ppo_strong := by kernel_rfl
theorem fn_ppo_view_paired : pg.fn 41 = some ir_ppo_view_paired := by kernel_rfl
theorem fn_ppo_rules_4 : pg.fn 42 = some ir_ppo_rules_4 := by kernel_rfl
theorem fn_ppo_view_hangs : pg.fn 43 = some ir_ppo_view_hangs := by kernel_rfl
theorem fn_ppo_byAddress : pg.fn 44 = some ir_ppo_byAddress := by kernel_rfl
theorem fn_ppo_rules_5 : pg.fn 45 = some ir_ppo_rules_5 := by kernel_rfl
theorem fn_ppo_byData : pg.fn 46 = some ir_ppo_byData := by kernel_rfl
theorem fn_ppo_rules_6 : pg.fn 47 = some ir_ppo_rules_6 := by kernel_rfl
theorem fn_ppo_byCourse : pg.fn 48 = some ir_ppo_byCourse := by kernel_rfl
theorem fn_ppo_view_through : pg.fn 49 = some ir_ppo_view_through := by kernel_rfl
theorem fn_ppo_view_known : pg.fn 50 = some ir_ppo_view_known := by kernel_rfl
theorem fn_rel_Rel_Add : pg.fn 51 = some ir_rel_Rel_Add := by kernel_rfl
theorem fn_math_bits_TrailingZeros64 : pg.fn 52 = some ir_math_bits_TrailingZeros64 := by kernel_rfl
theorem fn_deps_along : pg.fn 53 = some ir_deps_along := by kernel_rfl
theorem fn_deps_Address_1 : pg.fn 54 = some ir_deps_Address_1 := by kernel_rfl
theorem fn_deps_roots_of : pg.fn 55 = some ir_deps_roots_of := by kernel_rfl
theorem fn_deps_first : pg.fn 56 = some ir_deps_first := by kernel_rfl
theorem fn_deps_Data_1 : pg.fn 57 = some ir_deps_Data_1 := by kernel_rfl
theorem fn_deps_second : pg.fn 58 = some ir_deps_second := by kernel_rfl
theorem fn_deps_Course_1 : pg.fn 59 = some ir_deps_Course_1 := by kernel_rfl
theorem fn_deps_set_join : pg.fn 60 = some ir_deps_set_join := by kernel_rfl
theorem fn_ops_Sources : pg.fn 61 = some ir_ops_Sources := by kernel_rfl
theorem fn_ppo_overlap : pg.fn 62 = some ir_ppo_overlap := by kernel_rfl
theorem fn_ppo_has : pg.fn 63 = some ir_ppo_has := by kernel_rfl
theorem fn_ppo_view_between : pg.fn 64 = some ir_ppo_view_between := by kernel_rfl
theorem fn_ppo_returns : pg.fn 65 = some ir_ppo_returns := by kernel_rfl
theorem fn_ppo_orders : pg.fn 66 = some ir_ppo_orders := by kernel_rfl
theorem fn_rel_row_add : pg.fn 67 = some ir_rel_row_add := by kernel_rfl
theorem fn_deps_set_each : pg.fn 68 = some ir_deps_set_each := by kernel_rfl
theorem fn_deps_roots_behind : pg.fn 69 = some ir_deps_roots_behind := by kernel_rfl
theorem fn_ops_register : pg.fn 70 = some ir_ops_register := by kernel_rfl
theorem fn_word_Overlap : pg.fn 71 = some ir_word_Overlap := by kernel_rfl
theorem fn_slices_Contains_int_int : pg.fn 72 = some ir_slices_Contains_int_int := by kernel_rfl
theorem fn_ops_Target : pg.fn 73 = some ir_ops_Target := by kernel_rfl
theorem fn_deps_gives : pg.fn 74 = some ir_deps_gives := by kernel_rfl
theorem fn_word_isRange : pg.fn 75 = some ir_word_isRange := by kernel_rfl
theorem fn_slices_Index_int_int : pg.fn 76 = some ir_slices_Index_int_int := by kernel_rfl
def irL : List (Nat × Vm.Fn) := [(3, ir_undertowlaw22_PpoAhead), (4, ir_undertowlaw22_PpoMore), (5, ir_undertowlaw22_PpoFree), (6, ir_undertowlaw22_PpoCut), (7, ir_undertowlaw22_alive), (8, ir_undertowref20_Great), (9, ir_cand_Events), (10, ir_ppo_All), (11, ir_rel_Rel_Pairs), (12, ir_rel_Rel_Len), (13, ir_rel_Rel_Has), (14, ir_undertowlaw22_one), (15, ir_undertowref05_Sort), (16, ir_ppo_Rule), (17, ir_cand_isEvent), (18, ir_ops_Loads), (19, ir_ops_Stores), (20, ir_ops_Size), (21, ir_ppo_look), (22, ir_rel_New), (23, ir_ppo_rules), (24, ir_ppo_view_into), (25, ir_rel_row_each), (26, ir_rel_Rel_is), (27, ir_rel_row_has), (28, ir_ops_Memory), (29, ir_ops_Sort), (30, ir_deps_Address), (31, ir_deps_Data), (32, ir_deps_Course), (33, ir_ppo_view_same), (34, ir_ppo_view_loads), (35, ir_ppo_view_written), (36, ir_ppo_view_fenced), (37, ir_ppo_rules_1), (38, ir_ppo_rules_2), (39, ir_ppo_rules_3), (40, ir_ppo_strong), (41, ir_ppo_view_paired), (42, ir_ppo_rules_4), (43, ir_ppo_view_hangs), (44, ir_ppo_byAddress), (45, ir_ppo_rules_5), (46, ir_ppo_byData), (47, ir_ppo_rules_6), (48, ir_ppo_byCourse), (49, ir_ppo_view_through), (50, ir_ppo_view_known), (51, ir_rel_Rel_Add), (52, ir_math_bits_TrailingZeros64), (53, ir_deps_along), (54, ir_deps_Address_1), (55, ir_deps_roots_of), (56, ir_deps_first), (57, ir_deps_Data_1), (58, ir_deps_second), (59, ir_deps_Course_1), (60, ir_deps_set_join), (61, ir_ops_Sources), (62, ir_ppo_overlap), (63, ir_ppo_has), (64, ir_ppo_view_between), (65, ir_ppo_returns), (66, ir_ppo_orders), (67, ir_rel_row_add), (68, ir_deps_set_each), (69, ir_deps_roots_behind), (70, ir_ops_register), (71, ir_word_Overlap), (72, ir_slices_Contains_int_int), (73, ir_ops_Target), (74, ir_deps_gives), (75, ir_word_isRange), (76, ir_slices_Index_int_int)]
theorem irL_ok : ∀ q ∈ irL, pg.fn q.1 = some q.2 := by
  simp only [irL, List.forall_mem_cons]
  exact ⟨fn_undertowlaw22_PpoAhead, fn_undertowlaw22_PpoMore, fn_undertowlaw22_PpoFree, fn_undertowlaw22_PpoCut, fn_undertowlaw22_alive, fn_undertowref20_Great, fn_cand_Events, fn_ppo_All, fn_rel_Rel_Pairs, fn_rel_Rel_Len, fn_rel_Rel_Has, fn_undertowlaw22_one, fn_undertowref05_Sort, fn_ppo_Rule, fn_cand_isEvent, fn_ops_Loads, fn_ops_Stores, fn_ops_Size, fn_ppo_look, fn_rel_New, fn_ppo_rules, fn_ppo_view_into, fn_rel_row_each, fn_rel_Rel_is, fn_rel_row_has, fn_ops_Memory, fn_ops_Sort, fn_deps_Address, fn_deps_Data, fn_deps_Course, fn_ppo_view_same, fn_ppo_view_loads, fn_ppo_view_written, fn_ppo_view_fenced, fn_ppo_rules_1, fn_ppo_rules_2, fn_ppo_rules_3, fn_ppo_strong, fn_ppo_view_paired, fn_ppo_rules_4, fn_ppo_view_hangs, fn_ppo_byAddress, fn_ppo_rules_5, fn_ppo_byData, fn_ppo_rules_6, fn_ppo_byCourse, fn_ppo_view_through, fn_ppo_view_known, fn_rel_Rel_Add, fn_math_bits_TrailingZeros64, fn_deps_along, fn_deps_Address_1, fn_deps_roots_of, fn_deps_first, fn_deps_Data_1, fn_deps_second, fn_deps_Course_1, fn_deps_set_join, fn_ops_Sources, fn_ppo_overlap, fn_ppo_has, fn_ppo_view_between, fn_ppo_returns, fn_ppo_orders, fn_rel_row_add, fn_deps_set_each, fn_deps_roots_behind, fn_ops_register, fn_word_Overlap, fn_slices_Contains_int_int, fn_ops_Target, fn_deps_gives, fn_word_isRange, fn_slices_Index_int_int, by simp⟩
end Go.Proofs.YtccdkkgimaajbaaDoor
