/- The functions' own form, printed by a tool of this session out of the given translation. -/
import Derived.Test.YtlkcfhpklibnaaaVf
import Derived.Test.YtlkcfhpklibnaaaChecked
import Derived.KernelRfl
namespace Go.Proofs.Ytlkcfhpklibnaaa
open Go Go.Vm
def glT : List (Nat × List V) := []
abbrev n_undertowlaw20_CandEvents : Nat := 3
abbrev n_undertowlaw20_CandChecks : Nat := 4
abbrev n_undertowlaw20_CandTurned : Nat := 5
abbrev n_undertowlaw20_CandHarts : Nat := 6
abbrev n_undertowlaw20_alive : Nat := 7
abbrev n_undertowref20_Great : Nat := 8
abbrev n_cand_Events : Nat := 9
abbrev n_undertowref20_Events : Nat := 10
abbrev n_undertowref20_SameEvents : Nat := 11
abbrev n_cand_Find : Nat := 12
abbrev n_undertowref20_Find : Nat := 13
abbrev n_cand_Check : Nat := 14
abbrev n_undertowref20_Check : Nat := 15
abbrev n_cand_Byte : Nat := 16
abbrev n_cand_isEvent : Nat := 17
abbrev n_ops_Loads : Nat := 18
abbrev n_ops_Stores : Nat := 19
abbrev n_ops_Size : Nat := 20
abbrev n_undertowref20_IsEvent : Nat := 21
abbrev n_undertowref05_Sort : Nat := 22
abbrev n_undertowref05_Size : Nat := 23
abbrev n_slices_IndexFunc_api_Event_api_Event : Nat := 24
abbrev n_cand_Find_1 : Nat := 25
abbrev n_cand_faults : Nat := 26
abbrev n_undertowref08_Where : Nat := 27
abbrev n_undertowref20_Has : Nat := 28
abbrev n_undertowref20_Byte : Nat := 29
abbrev n_cand_has : Nat := 30
abbrev n_ops_Memory : Nat := 31
abbrev n_ops_Sort : Nat := 32
abbrev n_undertowref05_Name : Nat := 33
abbrev n_cand_look_image : Nat := 34
abbrev n_cand_look_many : Nat := 35
abbrev n_cand_look_ids : Nat := 36
abbrev n_cand_look_places : Nat := 37
abbrev n_cand_look_tags : Nat := 38
abbrev n_cand_look_bytes : Nat := 39
abbrev n_cand_look_orders : Nat := 40
abbrev n_cand_look_pairs : Nat := 41
abbrev n_undertowref05_Names : Nat := 42
abbrev n_slices_ContainsFunc_api_Event_api_Event : Nat := 43
abbrev n_cand_look_places_1 : Nat := 44
abbrev n_alu_Where : Nat := 45
abbrev n_cand_look_writer : Nat := 46
abbrev n_word_Zext : Nat := 47
abbrev n_word_Bytes : Nat := 48
/-- 3: undertow/undertowlaw20.CandEvents -/
def h3 : Vm.Hint := ⟨[0, 1, 2, 4, 5, 6, 8, 10], [2], [], [[1, 0], [0, 0], [0], [0, 0], [0, 0], [0, 0, 0, 0, 0, 0], [0, 0, 0, 0, 0, 0, 0, 0, 0, 0, 0, 0, 0, 0, 0, 0]], [([0, 3], []), ([], []), ([1, 2, 6], [(true, 0)]), ([6], []), ([1, 2, 7], [(true, 0)]), ([2, 7], [(true, 0)]), ([1, 4, 5], [])], []⟩
def ir_undertowlaw20_CandEvents : Vm.Fn := ⟨[0, 1, 2, 4, 5, 6, 8, 10], 1, 0, [.slot 3],
 .seq (.seq (.reg [⟨.lbox 0 5 (.s 0), none⟩,
   ⟨.mv (.c (.bool false)), none⟩] [(true, 0)] [] [(2, 0, some 1), (3, 1, none)])
 (.drop [0, 3] []))
 (.seq (.seq (.reg [⟨.call .val n_undertowlaw20_alive [], none⟩,
   ⟨.un .not (.r 0), none⟩] [] [] [(6, 1, none)])
 (.cond (.s 6) (.seq (.seq (.reg [⟨.mv (.c (.bool false)), none⟩] [] [] [(3, 0, none)])
  (.drop [1, 2, 6] [(true, 0)]))
  (.ret))
  (.skip)))
 (.seq (.seq (.seq (.reg [⟨.load 0 true 5 (.s 2), none⟩,
   ⟨.call .val n_undertowref20_Great [(.r 0)], none⟩] [] [] [(7, 1, none)])
 (.drop [6] []))
 (.cond (.s 7) (.seq (.seq (.reg [⟨.call .val n_undertowlaw20_alive [], none⟩,
    ⟨.mv (.r 0), none⟩] [] [] [(3, 1, none)])
  (.drop [1, 2, 7] [(true, 0)]))
  (.ret))
  (.skip)))
 (.seq (.seq (.reg [⟨.load 0 true 5 (.s 2), none⟩,
   ⟨.call .val n_cand_Events [(.r 0)], none⟩,
   ⟨.load 0 true 5 (.s 2), none⟩,
   ⟨.call .val n_undertowref20_Events [(.r 2)], none⟩,
   ⟨.mv (.r 1), none⟩,
   ⟨.mv (.r 3), none⟩] [] [(0, 2), (1, 2)] [(4, 4, none), (5, 5, none)])
 (.drop [2, 7] [(true, 0)]))
 (.seq (.seq (.reg [⟨.call .val n_undertowlaw20_alive [], none⟩,
   ⟨.mv (.r 0), none⟩,
   ⟨.mv (.s 4), some (1, true)⟩,
   ⟨.mv (.s 5), some (1, true)⟩,
   ⟨.call .val n_undertowref20_SameEvents [(.r 2), (.r 3)], some (1, true)⟩,
   ⟨.pick (.r 1) (.r 4) (.c (.bool false)), none⟩,
   ⟨.mv (.r 5), none⟩,
   ⟨.mv (.s 4), some (6, true)⟩,
   ⟨.mv (.s 1), some (6, true)⟩,
   ⟨.call .val n_cand_Find [(.r 7), (.r 8)], some (6, true)⟩,
   ⟨.mv (.s 5), some (6, true)⟩,
   ⟨.mv (.s 1), some (6, true)⟩,
   ⟨.call .val n_undertowref20_Find [(.r 10), (.r 11)], some (6, true)⟩,
   ⟨.bin .eql (.r 9) (.r 12), some (6, true)⟩,
   ⟨.pick (.r 6) (.r 13) (.c (.bool false)), none⟩,
   ⟨.mv (.r 14), none⟩] [] [] [(3, 15, none)])
 (.drop [1, 4, 5] []))
 (.ret)))))⟩
/-- 4: undertow/undertowlaw20.CandChecks -/
def h4 : Vm.Hint := ⟨[0, 1, 2, 4, 6], [1], [], [[1, 0], [0, 0], [0], [0, 0], [0, 0], [0, 0, 0, 0, 0, 0, 0, 0, 0]], [([0, 2], []), ([], []), ([1, 3], [(true, 0)]), ([3], []), ([1, 4], [(true, 0)]), ([1, 4], [(true, 0)])], []⟩
def ir_undertowlaw20_CandChecks : Vm.Fn := ⟨[0, 1, 2, 4, 6], 1, 0, [.slot 2],
 .seq (.seq (.reg [⟨.lbox 0 5 (.s 0), none⟩,
   ⟨.mv (.c (.bool false)), none⟩] [(true, 0)] [] [(1, 0, some 1), (2, 1, none)])
 (.drop [0, 2] []))
 (.seq (.seq (.reg [⟨.call .val n_undertowlaw20_alive [], none⟩,
   ⟨.un .not (.r 0), none⟩] [] [] [(3, 1, none)])
 (.cond (.s 3) (.seq (.seq (.reg [⟨.mv (.c (.bool false)), none⟩] [] [] [(2, 0, none)])
  (.drop [1, 3] [(true, 0)]))
  (.ret))
  (.skip)))
 (.seq (.seq (.seq (.reg [⟨.load 0 true 5 (.s 1), none⟩,
   ⟨.call .val n_undertowref20_Great [(.r 0)], none⟩] [] [] [(4, 1, none)])
 (.drop [3] []))
 (.cond (.s 4) (.seq (.seq (.reg [⟨.call .val n_undertowlaw20_alive [], none⟩,
    ⟨.mv (.r 0), none⟩] [] [] [(2, 1, none)])
  (.drop [1, 4] [(true, 0)]))
  (.ret))
  (.skip)))
 (.seq (.seq (.reg [⟨.call .val n_undertowlaw20_alive [], none⟩,
   ⟨.mv (.r 0), none⟩,
   ⟨.load 0 true 5 (.s 1), some (1, true)⟩,
   ⟨.call .val n_cand_Check [(.r 2)], some (1, true)⟩,
   ⟨.load 0 true 5 (.s 1), some (1, true)⟩,
   ⟨.call .val n_undertowref20_Check [(.r 4)], some (1, true)⟩,
   ⟨.bin .eql (.r 3) (.r 5), some (1, true)⟩,
   ⟨.pick (.r 1) (.r 6) (.c (.bool false)), none⟩,
   ⟨.mv (.r 7), none⟩] [] [(2, 4), (3, 4)] [(2, 8, none)])
 (.drop [1, 4] [(true, 0)]))
 (.ret))))⟩
/-- 5: undertow/undertowlaw20.CandTurned -/
def h5 : Vm.Hint := ⟨[0, 1, 2, 3, 4, 8, 9, 10, 11, 12, 13, 14, 16, 23, 29, 58, 79, 113, 124], [4, 10, 11], [], [[1, 0], [0, 0], [0], [0, 0, 0, 0, 0, 0, 0], [0, 0], [0, 0, 0], [0, 0, 0], [0, 0], [0, 0, 0, 0, 0, 0, 0, 0, 2, 0], [0, 3, 0], [0], [0, 0, 0, 0, 0, 0, 0, 0], [0, 0, 0, 0, 0, 0], [0, 0, 0, 0, 0, 0], [0, 0], [0, 0, 0, 0, 0, 0, 0, 0, 0, 0, 0, 0, 0, 0, 0, 0, 0, 0, 0], [0, 0, 0], [0], [0, 0, 0, 0, 0, 0, 0, 0, 0, 0, 0, 0, 0, 0], [0, 0, 0, 0], [0, 0, 0, 0, 0, 0, 0, 0, 0, 0, 0, 0, 0, 0, 0, 0, 0, 0], [0, 0, 0, 0, 0, 0, 0, 0, 0], [0, 0, 0], [0], [0, 0, 0, 0, 0, 0, 0, 0, 0, 0, 0, 0, 0, 0], [0, 0, 0, 0, 0, 0], [0, 0, 0, 0, 0, 0, 0]], [([0, 5], []), ([], []), ([1, 2, 3, 4, 12], [(true, 0)]), ([12], []), ([1, 2, 3, 4, 13], [(true, 0)]), ([13], []), ([], []), ([1, 2, 3, 4, 6, 14], [(true, 0)]), ([1, 14], []), ([], []), ([], []), ([], []), ([], []), ([2], []), ([], []), ([15], []), ([], []), ([3, 4, 6, 7, 8, 9, 10, 16], [(true, 0), (true, 1), (true, 2)]), ([16], []), ([15], []), ([6, 11], []), ([3, 10, 17], []), ([], []), ([4, 7, 8, 9, 18], [(true, 0), (true, 1), (true, 2)]), ([4, 18], [(true, 0)]), ([3, 4, 7, 9, 10, 17], [(true, 1), (true, 0)]), ([8], [(true, 2)])], []⟩
def ir_undertowlaw20_CandTurned : Vm.Fn := ⟨[0, 1, 2, 3, 4, 8, 9, 10, 11, 12, 13, 14, 16, 23, 29, 58, 79, 113, 124], 3, 0, [.slot 5],
 .seq (.seq (.reg [⟨.lbox 0 5 (.s 0), none⟩,
   ⟨.mv (.c (.bool false)), none⟩] [(true, 0)] [] [(4, 0, some 1), (5, 1, none)])
 (.drop [0, 5] []))
 (.seq (.seq (.reg [⟨.call .val n_undertowlaw20_alive [], none⟩,
   ⟨.un .not (.r 0), none⟩] [] [] [(12, 1, none)])
 (.cond (.s 12) (.seq (.seq (.reg [⟨.mv (.c (.bool false)), none⟩] [] [] [(5, 0, none)])
  (.drop [1, 2, 3, 4, 12] [(true, 0)]))
  (.ret))
  (.skip)))
 (.seq (.seq (.seq (.reg [⟨.load 0 true 5 (.s 4), none⟩,
   ⟨.call .val n_undertowref20_Great [(.r 0)], none⟩,
   ⟨.mv (.r 1), none⟩,
   ⟨.load 0 true 5 (.s 4), some (2, false)⟩,
   ⟨.call .val n_cand_Check [(.r 3)], some (2, false)⟩,
   ⟨.bin .neq (.r 4) (.c (.int .i64 0)), some (2, false)⟩,
   ⟨.pick (.r 2) (.c (.bool true)) (.r 5), none⟩] [] [] [(13, 6, none)])
 (.drop [12] []))
 (.cond (.s 13) (.seq (.seq (.reg [⟨.call .val n_undertowlaw20_alive [], none⟩,
    ⟨.mv (.r 0), none⟩] [] [] [(5, 1, none)])
  (.drop [1, 2, 3, 4, 13] [(true, 0)]))
  (.ret))
  (.skip)))
 (.seq (.seq (.reg [⟨.load 0 true 5 (.s 4), none⟩,
   ⟨.call .val n_cand_Events [(.r 0)], none⟩,
   ⟨.mv (.r 1), none⟩] [] [] [(6, 2, none)])
 (.drop [13] []))
 (.seq (.seq (.reg [⟨.mv (.s 6), none⟩,
   ⟨.len 1 (.r 0), none⟩,
   ⟨.bin .eql (.r 1) (.c (.int .i64 0)), none⟩] [] [] [(14, 2, none)])
 (.cond (.s 14) (.seq (.seq (.reg [⟨.call .val n_undertowlaw20_alive [], none⟩,
    ⟨.mv (.r 0), none⟩] [] [] [(5, 1, none)])
  (.drop [1, 2, 3, 4, 6, 14] [(true, 0)]))
  (.ret))
  (.skip)))
 (.seq (.seq (.reg [⟨.mv (.s 6), none⟩,
   ⟨.mv (.s 1), none⟩,
   ⟨.i2i .i64 (.r 1), none⟩,
   ⟨.mv (.s 6), none⟩,
   ⟨.len 1 (.r 3), none⟩,
   ⟨.bin .rem (.r 2) (.r 4), none⟩,
   ⟨.iaS 33 (.r 0) (.r 5), none⟩,
   ⟨.load 0 true 33 (.r 6), none⟩,
   ⟨.lalloc 1 [.int .i64 0, .int .i64 0, .int .u64 0, .int .i64 0, .int .i64 0, .int .i64 0, .int .i64 0, .int .i64 0, .bool false, .bool false, .int .i64 0, .int .i64 0, .int .i64 0, .int .u64 0, .int .u64 0, .int .u64 0, .int .u64 0, .bool false, .int .i64 0, .flt 0, .int .i64 0, .int .i64 0, .int .i64 0, .int .i64 0, .int .i64 0, .int .i64 0, .int .i64 0, .int .i64 0, .int .i64 0, .bool false, .bool false, .int .i64 0, .int .i64 0], none⟩,
   ⟨.store 0 33 (.r 8) (.r 7), none⟩] [(true, 1)] [] [(7, 8, some 3)])
 (.drop [1, 14] []))
 (.seq (.reg [⟨.load 0 true 5 (.s 4), none⟩,
   ⟨.lalloc 2 [.nils, .nils, .nils, .nils, .nils], none⟩,
   ⟨.store 0 5 (.r 1) (.r 0), none⟩] [(true, 2)] [] [(8, 1, some 5)])
 (.seq (.reg [⟨.mv (.c (.nils)), none⟩] [] [] [(9, 0, none)])
 (.seq (.reg [⟨.mv (.s 9), none⟩,
   ⟨.off 0 (.s 7), none⟩,
   ⟨.load 0 false 1 (.r 1), none⟩,
   ⟨.off 1 (.s 4), none⟩,
   ⟨.iaA 3 1 (.r 3) (.r 2), none⟩,
   ⟨.load 0 false 1 (.r 4), none⟩,
   ⟨.app 0 27 208 (.r 0) (.r 5), none⟩,
   ⟨.mv (.r 6), none⟩] [] [] [(9, 7, none)])
 (.seq (.reg [⟨.off 0 (.s 7), none⟩,
   ⟨.load 0 false 1 (.r 0), none⟩,
   ⟨.mv (.s 9), none⟩,
   ⟨.off 1 (.s 8), none⟩,
   ⟨.iaA 3 1 (.r 3) (.r 1), none⟩,
   ⟨.store 0 1 (.r 4) (.r 2), none⟩] [] [] [])
 (.seq (.seq (.reg [⟨.mv (.s 2), none⟩,
   ⟨.i2i .i64 (.r 0), none⟩,
   ⟨.off 32 (.s 7), none⟩,
   ⟨.load 0 false 1 (.r 2), none⟩,
   ⟨.bin .rem (.r 1) (.r 3), none⟩,
   ⟨.mv (.r 4), none⟩] [] [] [(10, 5, none)])
 (.drop [2] []))
 (.seq (.seq (.reg [⟨.off 29 (.s 7), none⟩,
   ⟨.load 0 false 1 (.r 0), none⟩] [] [] [(15, 1, none)])
 (.cond (.s 15) (.seq (.seq (.reg [⟨.mv (.s 9), none⟩,
    ⟨.off 1 (.s 7), none⟩,
    ⟨.load 0 false 1 (.r 1), none⟩,
    ⟨.mv (.s 9), none⟩,
    ⟨.off 1 (.s 7), none⟩,
    ⟨.load 0 false 1 (.r 4), none⟩,
    ⟨.iaS 27 (.r 3) (.r 5), none⟩,
    ⟨.off 0 (.r 6), none⟩,
    ⟨.off 13 (.r 7), none⟩,
    ⟨.load 0 false 1 (.r 8), none⟩,
    ⟨.mv (.s 10), none⟩,
    ⟨.bin .mul (.c (.int .i64 8)) (.r 10), none⟩,
    ⟨.i2i .u64 (.r 11), none⟩,
    ⟨.bin .shl (.c (.int .u64 1)) (.r 12), none⟩,
    ⟨.bin .xor (.r 9) (.r 13), none⟩,
    ⟨.iaS 27 (.r 0) (.r 2), none⟩,
    ⟨.off 0 (.r 15), none⟩,
    ⟨.off 13 (.r 16), none⟩,
    ⟨.store 0 1 (.r 17) (.r 14), none⟩] [] [(2, 5), (2, 6), (2, 9)] [])
  (.drop [15] []))
  (.seq (.seq (.reg [⟨.load 0 true 5 (.s 8), none⟩,
    ⟨.call .val n_cand_Check [(.r 0)], none⟩,
    ⟨.bin .neq (.r 1) (.c (.int .i64 6)), none⟩] [] [] [(16, 2, none)])
  (.cond (.s 16) (.seq (.seq (.reg [⟨.mv (.c (.bool false)), none⟩] [] [] [(5, 0, none)])
   (.drop [3, 4, 6, 7, 8, 9, 10, 16] [(true, 0), (true, 1), (true, 2)]))
   (.ret))
   (.skip)))
  (.seq (.reg [⟨.mv (.s 9), none⟩,
    ⟨.off 1 (.s 7), none⟩,
    ⟨.load 0 false 1 (.r 1), none⟩,
    ⟨.off 0 (.s 7), none⟩,
    ⟨.load 0 false 1 (.r 3), none⟩,
    ⟨.off 1 (.s 4), none⟩,
    ⟨.iaA 3 1 (.r 5) (.r 4), none⟩,
    ⟨.load 0 false 1 (.r 6), none⟩,
    ⟨.off 1 (.s 7), none⟩,
    ⟨.load 0 false 1 (.r 8), none⟩,
    ⟨.iaS 27 (.r 7) (.r 9), none⟩,
    ⟨.load 0 true 27 (.r 10), none⟩,
    ⟨.iaS 27 (.r 0) (.r 2), none⟩,
    ⟨.store 0 27 (.r 12) (.r 11), none⟩] [] [(2, 4), (2, 7), (2, 9), (2, 10), (2, 11), (4, 9), (7, 9)] [])
  (.drop [16] []))))
  (.skip)))
 (.seq (.seq (.reg [⟨.mv (.s 6), none⟩,
   ⟨.mv (.s 3), none⟩,
   ⟨.call .val n_cand_Find [(.r 0), (.r 1)], none⟩,
   ⟨.mv (.r 2), none⟩] [] [] [(11, 3, none)])
 (.drop [15] []))
 (.seq (.seq (.seq (.reg [⟨.off 29 (.s 7), none⟩,
   ⟨.load 0 false 1 (.r 0), none⟩,
   ⟨.mv (.r 1), none⟩,
   ⟨.mv (.s 3), some (2, true)⟩,
   ⟨.bin .neq (.r 3) (.c (.int .i64 (-1))), some (2, true)⟩,
   ⟨.pick (.r 2) (.r 4) (.c (.bool false)), none⟩,
   ⟨.mv (.r 5), none⟩,
   ⟨.mv (.s 11), some (6, true)⟩,
   ⟨.bin .lss (.r 7) (.c (.int .i64 0)), some (6, true)⟩,
   ⟨.mv (.r 8), some (6, true)⟩,
   ⟨.mv (.s 6), some (9, false)⟩,
   ⟨.mv (.s 11), some (9, false)⟩,
   ⟨.iaS 33 (.r 10) (.r 11), some (9, false)⟩,
   ⟨.off 30 (.r 12), some (9, false)⟩,
   ⟨.load 0 false 1 (.r 13), some (9, false)⟩,
   ⟨.un .not (.r 14), some (9, false)⟩,
   ⟨.pick (.r 9) (.c (.bool true)) (.r 15), some (6, true)⟩,
   ⟨.pick (.r 6) (.r 16) (.c (.bool false)), none⟩] [] [] [(17, 17, none)])
 (.drop [6, 11] []))
 (.cond (.s 17) (.seq (.seq (.reg [⟨.mv (.s 9), none⟩,
    ⟨.off 1 (.s 7), none⟩,
    ⟨.load 0 false 1 (.r 1), none⟩,
    ⟨.mv (.s 10), none⟩,
    ⟨.mv (.s 3), none⟩,
    ⟨.iaS 27 (.r 0) (.r 2), none⟩,
    ⟨.off 18 (.r 5), none⟩,
    ⟨.iaA 8 1 (.r 6) (.r 3), none⟩,
    ⟨.store 0 1 (.r 7) (.r 4), none⟩] [] [] [])
  (.drop [3, 10, 17] []))
  (.seq (.seq (.reg [⟨.load 0 true 5 (.s 8), none⟩,
    ⟨.call .val n_cand_Check [(.r 0)], none⟩,
    ⟨.bin .neq (.r 1) (.c (.int .i64 5)), none⟩] [] [] [(18, 2, none)])
  (.cond (.s 18) (.seq (.seq (.reg [⟨.mv (.c (.bool false)), none⟩] [] [] [(5, 0, none)])
   (.drop [4, 7, 8, 9, 18] [(true, 0), (true, 1), (true, 2)]))
   (.ret))
   (.skip)))
  (.seq (.reg [⟨.mv (.s 9), none⟩,
    ⟨.off 1 (.s 7), none⟩,
    ⟨.load 0 false 1 (.r 1), none⟩,
    ⟨.off 0 (.s 7), none⟩,
    ⟨.load 0 false 1 (.r 3), none⟩,
    ⟨.off 1 (.s 4), none⟩,
    ⟨.iaA 3 1 (.r 5) (.r 4), none⟩,
    ⟨.load 0 false 1 (.r 6), none⟩,
    ⟨.off 1 (.s 7), none⟩,
    ⟨.load 0 false 1 (.r 8), none⟩,
    ⟨.iaS 27 (.r 7) (.r 9), none⟩,
    ⟨.load 0 true 27 (.r 10), none⟩,
    ⟨.iaS 27 (.r 0) (.r 2), none⟩,
    ⟨.store 0 27 (.r 12) (.r 11), none⟩] [] [(2, 4), (2, 7), (2, 9), (2, 10), (2, 11), (4, 9), (7, 9)] [])
  (.drop [4, 18] [(true, 0)]))))
  (.skip)))
 (.seq (.seq (.reg [⟨.mv (.s 9), none⟩,
   ⟨.off 1 (.s 7), none⟩,
   ⟨.load 0 false 1 (.r 1), none⟩,
   ⟨.iaS 27 (.r 0) (.r 2), none⟩,
   ⟨.off 16 (.r 3), none⟩,
   ⟨.store 0 1 (.r 4) (.c (.int .i64 (-1))), none⟩] [] [] [])
 (.drop [3, 4, 7, 9, 10, 17] [(true, 1), (true, 0)]))
 (.seq (.seq (.reg [⟨.call .val n_undertowlaw20_alive [], none⟩,
   ⟨.mv (.r 0), none⟩,
   ⟨.load 0 true 5 (.s 8), some (1, true)⟩,
   ⟨.call .val n_cand_Check [(.r 2)], some (1, true)⟩,
   ⟨.bin .eql (.r 3) (.c (.int .i64 3)), some (1, true)⟩,
   ⟨.pick (.r 1) (.r 4) (.c (.bool false)), none⟩,
   ⟨.mv (.r 5), none⟩] [] [] [(5, 6, none)])
 (.drop [8] [(true, 2)]))
 (.ret))))))))))))))))⟩
/-- 6: undertow/undertowlaw20.CandHarts -/
def h6 : Vm.Hint := ⟨[0, 1, 2, 3, 6, 7, 8, 9, 11, 13], [3, 7], [], [[1, 0], [0, 0], [0], [0, 0], [0], [0, 2, 0], [0, 0, 0, 0, 0, 0, 0, 0], [0, 0, 0, 0, 0, 0, 0, 0], [0, 0, 0, 0, 0, 0, 0, 0], [0, 0, 0, 0, 0, 0, 0, 0, 0, 0, 0, 0, 0, 0, 0]], [([0, 4], []), ([], []), ([1, 2, 3, 8], [(true, 0)]), ([8], []), ([1, 2, 3, 9], [(true, 0)]), ([9], []), ([1, 2], []), ([], []), ([6, 7], []), ([3, 5], [(true, 0), (true, 1)])], []⟩
def ir_undertowlaw20_CandHarts : Vm.Fn := ⟨[0, 1, 2, 3, 6, 7, 8, 9, 11, 13], 2, 0, [.slot 4],
 .seq (.seq (.reg [⟨.lbox 0 5 (.s 0), none⟩,
   ⟨.mv (.c (.bool false)), none⟩] [(true, 0)] [] [(3, 0, some 1), (4, 1, none)])
 (.drop [0, 4] []))
 (.seq (.seq (.reg [⟨.call .val n_undertowlaw20_alive [], none⟩,
   ⟨.un .not (.r 0), none⟩] [] [] [(8, 1, none)])
 (.cond (.s 8) (.seq (.seq (.reg [⟨.mv (.c (.bool false)), none⟩] [] [] [(4, 0, none)])
  (.drop [1, 2, 3, 8] [(true, 0)]))
  (.ret))
  (.skip)))
 (.seq (.seq (.seq (.reg [⟨.load 0 true 5 (.s 3), none⟩,
   ⟨.call .val n_undertowref20_Great [(.r 0)], none⟩] [] [] [(9, 1, none)])
 (.drop [8] []))
 (.cond (.s 9) (.seq (.seq (.reg [⟨.mv (.c (.bool true)), none⟩] [] [] [(4, 0, none)])
  (.drop [1, 2, 3, 9] [(true, 0)]))
  (.ret))
  (.skip)))
 (.seq (.seq (.reg [⟨.load 0 true 5 (.s 3), none⟩,
   ⟨.lalloc 1 [.nils, .nils, .nils, .nils, .nils], none⟩,
   ⟨.store 0 5 (.r 1) (.r 0), none⟩] [(true, 1)] [] [(5, 1, some 3)])
 (.drop [9] []))
 (.seq (.seq (.reg [⟨.mv (.s 1), none⟩,
   ⟨.bin .rem (.r 0) (.c (.int .u8 3)), none⟩,
   ⟨.i2i .i64 (.r 1), none⟩,
   ⟨.mv (.s 2), none⟩,
   ⟨.bin .rem (.r 3) (.c (.int .u8 3)), none⟩,
   ⟨.i2i .i64 (.r 4), none⟩,
   ⟨.mv (.r 2), none⟩,
   ⟨.mv (.r 5), none⟩] [] [] [(6, 6, none), (7, 7, none)])
 (.drop [1, 2] []))
 (.seq (.reg [⟨.mv (.s 6), none⟩,
   ⟨.mv (.s 7), none⟩,
   ⟨.off 1 (.s 3), none⟩,
   ⟨.iaA 3 1 (.r 2) (.r 1), none⟩,
   ⟨.load 0 false 1 (.r 3), none⟩,
   ⟨.off 1 (.s 5), none⟩,
   ⟨.iaA 3 1 (.r 5) (.r 0), none⟩,
   ⟨.store 0 1 (.r 6) (.r 4), none⟩] [] [] [])
 (.seq (.seq (.reg [⟨.mv (.s 7), none⟩,
   ⟨.mv (.s 6), none⟩,
   ⟨.off 1 (.s 3), none⟩,
   ⟨.iaA 3 1 (.r 2) (.r 1), none⟩,
   ⟨.load 0 false 1 (.r 3), none⟩,
   ⟨.off 1 (.s 5), none⟩,
   ⟨.iaA 3 1 (.r 5) (.r 0), none⟩,
   ⟨.store 0 1 (.r 6) (.r 4), none⟩] [] [] [])
 (.drop [6, 7] []))
 (.seq (.seq (.reg [⟨.load 0 true 5 (.s 3), none⟩,
   ⟨.call .val n_cand_Check [(.r 0)], none⟩,
   ⟨.load 0 true 5 (.s 5), none⟩,
   ⟨.call .val n_cand_Check [(.r 2)], none⟩,
   ⟨.bin .eql (.r 1) (.r 3), none⟩,
   ⟨.mv (.r 4), none⟩,
   ⟨.load 0 true 5 (.s 3), some (5, true)⟩,
   ⟨.call .val n_cand_Events [(.r 6)], some (5, true)⟩,
   ⟨.len 1 (.r 7), some (5, true)⟩,
   ⟨.load 0 true 5 (.s 5), some (5, true)⟩,
   ⟨.call .val n_cand_Events [(.r 9)], some (5, true)⟩,
   ⟨.len 1 (.r 10), some (5, true)⟩,
   ⟨.bin .eql (.r 8) (.r 11), some (5, true)⟩,
   ⟨.pick (.r 5) (.r 12) (.c (.bool false)), none⟩,
   ⟨.mv (.r 13), none⟩] [] [(0, 2), (1, 2), (6, 9), (7, 9), (8, 9), (8, 10), (8, 11)] [(4, 14, none)])
 (.drop [3, 5] [(true, 0), (true, 1)]))
 (.ret))))))))⟩
/-- 7: undertow/undertowlaw20.alive -/
def h7 : Vm.Hint := ⟨[0, 1, 2, 3, 4, 5], [1], [], [[0], [1, 0, 0, 1, 0], [1, 0, 0, 0, 0], [0, 0, 0, 0, 0, 0, 0, 0], [0, 0, 0, 0, 0], [0, 0, 0], [0, 0, 0, 0, 0, 0, 0, 0, 0, 0, 0, 0], [0, 0, 0, 0, 0, 0, 0, 0, 0, 0, 0, 0, 0, 0, 0, 0, 0, 0, 0, 0, 0, 0, 0, 0, 0, 0, 0, 0, 0, 0, 0, 0]], [([0], []), ([], []), ([], []), ([], []), ([], []), ([], []), ([], []), ([1, 2, 3, 4, 5], [(true, 0)])], []⟩
def ir_undertowlaw20_alive : Vm.Fn := ⟨[0, 1, 2, 3, 4, 5], 1, 0, [.slot 0],
 .seq (.seq (.reg [⟨.mv (.c (.bool false)), none⟩] [] [] [(0, 0, none)])
 (.drop [0] []))
 (.seq (.reg [⟨.mksv [.int .u8 0] 1 (.c (.int .i64 4)) (.c (.int .i64 4)), none⟩,
   ⟨.mksl [.nils] 24 (.c (.int .i64 4)) (.c (.int .i64 4)), none⟩,
   ⟨.build [.nils, .nils, .nils, .nils, .nils] [(0, 1, (.r 0)), (4, 1, (.r 1))], none⟩,
   ⟨.lalloc 0 [.nils, .nils, .nils, .nils, .nils], none⟩,
   ⟨.store 0 5 (.r 3) (.r 2), none⟩] [(true, 0)] [(1, 3)] [(1, 3, some 1)])
 (.seq (.reg [⟨.mksv [.int .u8 0] 1 (.c (.int .i64 4)) (.c (.int .i64 4)), none⟩,
   ⟨.mksl [.nils] 24 (.c (.int .i64 3)) (.c (.int .i64 3)), none⟩,
   ⟨.build [.nils, .nils, .nils, .nils, .nils] [(0, 1, (.r 0)), (4, 1, (.r 1))], none⟩,
   ⟨.call .val n_cand_Check [(.r 2)], none⟩,
   ⟨.mv (.r 3), none⟩] [] [] [(2, 4, none)])
 (.seq (.reg [⟨.build [.int .i64 0, .int .i64 0, .int .i64 0, .int .i64 0, .int .i64 0, .bool false, .bool false, .int .i64 0, .int .i64 0] [(0, 1, (.c (.int .i64 18)))], none⟩,
   ⟨.build [.int .u64 0, .int .i64 0, .int .i64 0, .int .i64 0, .int .i64 0, .int .i64 0, .bool false, .bool false, .int .i64 0, .int .i64 0, .int .i64 0, .int .u64 0, .int .u64 0, .int .u64 0, .int .u64 0, .bool false] [(1, 9, (.r 0)), (12, 1, (.c (.int .u64 2))), (14, 1, (.c (.int .u64 7)))], none⟩,
   ⟨.build [.int .i64 0, .int .i64 0, .int .i64 0, .int .i64 0, .int .i64 0, .int .i64 0, .int .i64 0, .int .i64 0] [(0, 1, (.c (.int .i64 (-1)))), (1, 1, (.c (.int .i64 (-1)))), (2, 1, (.c (.int .i64 (-1)))), (3, 1, (.c (.int .i64 (-1)))), (4, 1, (.c (.int .i64 (-1)))), (5, 1, (.c (.int .i64 (-1)))), (6, 1, (.c (.int .i64 (-1)))), (7, 1, (.c (.int .i64 (-1))))], none⟩,
   ⟨.build [.int .u64 0, .int .i64 0, .int .i64 0, .int .i64 0, .int .i64 0, .int .i64 0, .bool false, .bool false, .int .i64 0, .int .i64 0, .int .i64 0, .int .u64 0, .int .u64 0, .int .u64 0, .int .u64 0, .bool false, .int .i64 0, .flt 0, .int .i64 0, .int .i64 0, .int .i64 0, .int .i64 0, .int .i64 0, .int .i64 0, .int .i64 0, .int .i64 0, .int .i64 0] [(0, 16, (.r 1)), (16, 1, (.c (.int .i64 4))), (26, 1, (.c (.int .i64 (-1)))), (18, 8, (.r 2))], none⟩,
   ⟨.lit 0 27 [[.int .u64 0, .int .i64 0, .int .i64 0, .int .i64 0, .int .i64 0, .int .i64 0, .bool false, .bool false, .int .i64 0, .int .i64 0, .int .i64 0, .int .u64 0, .int .u64 0, .int .u64 0, .int .u64 0, .bool false, .int .i64 0, .flt 0, .int .i64 0, .int .i64 0, .int .i64 0, .int .i64 0, .int .i64 0, .int .i64 0, .int .i64 0, .int .i64 0, .int .i64 0]] [(0, (.r 3))], none⟩,
   ⟨.off 1 (.s 1), none⟩,
   ⟨.iaA 3 1 (.r 5) (.c (.int .i64 1)), none⟩,
   ⟨.store 0 1 (.r 6) (.r 4), none⟩] [] [] [])
 (.seq (.reg [⟨.off 4 (.s 1), none⟩,
   ⟨.load 0 false 1 (.r 0), none⟩,
   ⟨.lit 0 1 [[.int .i64 0]] [(0, (.c (.int .i64 4)))], none⟩,
   ⟨.iaS 1 (.r 1) (.c (.int .i64 2)), none⟩,
   ⟨.store 0 1 (.r 3) (.r 2), none⟩] [] [] [])
 (.seq (.reg [⟨.load 0 true 5 (.s 1), none⟩,
   ⟨.call .val n_cand_Events [(.r 0)], none⟩,
   ⟨.mv (.r 1), none⟩] [] [] [(3, 2, none)])
 (.seq (.reg [⟨.off 1 (.s 1), none⟩,
   ⟨.iaA 3 1 (.r 0) (.c (.int .i64 1)), none⟩,
   ⟨.load 0 false 1 (.r 1), none⟩,
   ⟨.iaS 27 (.r 2) (.c (.int .i64 0)), none⟩,
   ⟨.load 0 true 27 (.r 3), none⟩,
   ⟨.build [.int .i64 0, .int .i64 0, .int .u64 0, .int .i64 0, .int .i64 0, .int .i64 0, .int .i64 0, .int .i64 0, .bool false, .bool false, .int .i64 0, .int .i64 0, .int .i64 0, .int .u64 0, .int .u64 0, .int .u64 0, .int .u64 0, .bool false, .int .i64 0, .flt 0, .int .i64 0, .int .i64 0, .int .i64 0, .int .i64 0, .int .i64 0, .int .i64 0, .int .i64 0, .int .i64 0, .int .i64 0, .bool false, .bool false, .int .i64 0, .int .i64 0] [(30, 1, (.c (.bool true))), (31, 1, (.c (.int .i64 2))), (32, 1, (.c (.int .i64 1))), (2, 27, (.r 4))], none⟩,
   ⟨.call .val n_cand_Byte [(.r 5), (.c (.int .i64 2))], none⟩,
   ⟨.mv (.r 6), none⟩,
   ⟨.ext (.r 7) 0, none⟩,
   ⟨.ext (.r 7) 1, none⟩,
   ⟨.mv (.r 8), none⟩,
   ⟨.mv (.r 9), none⟩] [] [] [(4, 10, none), (5, 11, none)])
 (.seq (.seq (.reg [⟨.mv (.s 2), none⟩,
   ⟨.bin .eql (.r 0) (.c (.int .i64 1)), none⟩,
   ⟨.mv (.r 1), none⟩,
   ⟨.load 0 true 5 (.s 1), some (2, true)⟩,
   ⟨.call .val n_cand_Check [(.r 3)], some (2, true)⟩,
   ⟨.bin .eql (.r 4) (.c (.int .i64 0)), some (2, true)⟩,
   ⟨.pick (.r 2) (.r 5) (.c (.bool false)), none⟩,
   ⟨.mv (.r 6), none⟩,
   ⟨.mv (.s 3), some (7, true)⟩,
   ⟨.len 1 (.r 8), some (7, true)⟩,
   ⟨.bin .eql (.r 9) (.c (.int .i64 1)), some (7, true)⟩,
   ⟨.pick (.r 7) (.r 10) (.c (.bool false)), none⟩,
   ⟨.mv (.r 11), none⟩,
   ⟨.mv (.s 3), some (12, true)⟩,
   ⟨.iaS 33 (.r 13) (.c (.int .i64 0)), some (12, true)⟩,
   ⟨.off 0 (.r 14), some (12, true)⟩,
   ⟨.load 0 false 1 (.r 15), some (12, true)⟩,
   ⟨.bin .eql (.r 16) (.c (.int .i64 1)), some (12, true)⟩,
   ⟨.pick (.r 12) (.r 17) (.c (.bool false)), none⟩,
   ⟨.mv (.r 18), none⟩,
   ⟨.mv (.s 5), some (19, true)⟩,
   ⟨.pick (.r 19) (.r 20) (.c (.bool false)), none⟩,
   ⟨.mv (.r 21), none⟩,
   ⟨.mv (.s 4), some (22, true)⟩,
   ⟨.bin .eql (.r 23) (.c (.int .u8 7)), some (22, true)⟩,
   ⟨.pick (.r 22) (.r 24) (.c (.bool false)), none⟩,
   ⟨.mv (.r 25), none⟩,
   ⟨.mv (.s 3), some (26, true)⟩,
   ⟨.call .val n_cand_Find [(.r 27), (.c (.int .i64 4))], some (26, true)⟩,
   ⟨.bin .eql (.r 28) (.c (.int .i64 0)), some (26, true)⟩,
   ⟨.pick (.r 26) (.r 29) (.c (.bool false)), none⟩,
   ⟨.mv (.r 30), none⟩] [] [] [(0, 31, none)])
 (.drop [1, 2, 3, 4, 5] [(true, 0)]))
 (.ret))))))))⟩
/-- 8: undertow/undertowref20.Great -/
def h8 : Vm.Hint := ⟨[0, 1, 2, 3, 4, 14, 16, 24, 29, 38], [1], [], [[1, 0], [0, 0, 0, 0, 0, 0, 0, 0, 0, 0], [0], [0], [0, 0], [0, 0, 0], [0, 0, 0, 0, 0, 0], [0], [0], [0, 0, 0, 0, 0], [0, 0, 0], [0, 0, 0, 0, 0, 0, 0], [0], [0]], [([0, 2], []), ([], []), ([1, 5], [(true, 0)]), ([5], []), ([], []), ([7], []), ([6], []), ([1, 3, 7], [(true, 0)]), ([3, 6], []), ([], []), ([9], []), ([8], []), ([1, 4, 9], [(true, 0)]), ([1, 4, 8], [(true, 0)])], []⟩
def ir_undertowref20_Greatl0 : C :=
 .seq (.seq (.reg [⟨.mv (.s 3), none⟩,
   ⟨.bin .lss (.r 0) (.c (.int .i64 3)), none⟩] [] [] [(6, 1, none)])
 (.cond (.s 6) (.skip)
  (.exit 0)))
 (.seq (.block 1 (.seq (.seq (.reg [⟨.mv (.s 3), none⟩,
    ⟨.off 1 (.s 1), none⟩,
    ⟨.iaA 3 1 (.r 1) (.r 0), none⟩,
    ⟨.load 0 false 1 (.r 2), none⟩,
    ⟨.len 1 (.r 3), none⟩,
    ⟨.bin .gtr (.r 4) (.c (.int .i64 60)), none⟩] [] [] [(7, 5, none)])
  (.drop [6] []))
  (.cond (.s 7) (.seq (.seq (.reg [⟨.mv (.c (.bool true)), none⟩] [] [] [(2, 0, none)])
   (.drop [1, 3, 7] [(true, 0)]))
   (.ret))
   (.skip))))
 (.seq (.reg [⟨.mv (.s 3), none⟩,
   ⟨.bin .add (.r 0) (.c (.int .i64 1)), none⟩,
   ⟨.mv (.r 1), none⟩] [] [] [(3, 2, none)])
 (.drop [7] [])))
def ir_undertowref20_Greatl1 : C :=
 .seq (.seq (.reg [⟨.mv (.s 4), none⟩,
   ⟨.off 4 (.s 1), none⟩,
   ⟨.load 0 false 1 (.r 1), none⟩,
   ⟨.len 1 (.r 2), none⟩,
   ⟨.bin .lss (.r 0) (.r 3), none⟩] [] [] [(8, 4, none)])
 (.cond (.s 8) (.skip)
  (.exit 2)))
 (.seq (.block 3 (.seq (.seq (.reg [⟨.off 4 (.s 1), none⟩,
    ⟨.load 0 false 1 (.r 0), none⟩,
    ⟨.mv (.s 4), none⟩,
    ⟨.iaS 1 (.r 1) (.r 2), none⟩,
    ⟨.load 0 false 1 (.r 3), none⟩,
    ⟨.len 1 (.r 4), none⟩,
    ⟨.bin .gtr (.r 5) (.c (.int .i64 100)), none⟩] [] [] [(9, 6, none)])
  (.drop [8] []))
  (.cond (.s 9) (.seq (.seq (.reg [⟨.mv (.c (.bool true)), none⟩] [] [] [(2, 0, none)])
   (.drop [1, 4, 9] [(true, 0)]))
   (.ret))
   (.skip))))
 (.seq (.reg [⟨.mv (.s 4), none⟩,
   ⟨.bin .add (.r 0) (.c (.int .i64 1)), none⟩,
   ⟨.mv (.r 1), none⟩] [] [] [(4, 2, none)])
 (.drop [9] [])))
def ir_undertowref20_Great : Vm.Fn := ⟨[0, 1, 2, 3, 4, 14, 16, 24, 29, 38], 1, 0, [.slot 2],
 .seq (.seq (.reg [⟨.lbox 0 5 (.s 0), none⟩,
   ⟨.mv (.c (.bool false)), none⟩] [(true, 0)] [] [(1, 0, some 1), (2, 1, none)])
 (.drop [0, 2] []))
 (.seq (.seq (.reg [⟨.off 0 (.s 1), none⟩,
   ⟨.load 0 false 1 (.r 0), none⟩,
   ⟨.len 1 (.r 1), none⟩,
   ⟨.bin .gtr (.r 2) (.c (.int .i64 200)), none⟩,
   ⟨.mv (.r 3), none⟩,
   ⟨.off 4 (.s 1), some (4, false)⟩,
   ⟨.load 0 false 1 (.r 5), some (4, false)⟩,
   ⟨.len 1 (.r 6), some (4, false)⟩,
   ⟨.bin .gtr (.r 7) (.c (.int .i64 300)), some (4, false)⟩,
   ⟨.pick (.r 4) (.c (.bool true)) (.r 8), none⟩] [] [] [(5, 9, none)])
 (.cond (.s 5) (.seq (.seq (.reg [⟨.mv (.c (.bool true)), none⟩] [] [] [(2, 0, none)])
  (.drop [1, 5] [(true, 0)]))
  (.ret))
  (.skip)))
 (.seq (.seq (.seq (.reg [⟨.mv (.c (.int .i64 0)), none⟩] [] [] [(3, 0, none)])
 (.drop [5] []))
 (.block 0 (.loop ir_undertowref20_Greatl0)))
 (.seq (.seq (.seq (.reg [⟨.mv (.c (.int .i64 0)), none⟩] [] [] [(4, 0, none)])
 (.drop [3, 6] []))
 (.block 2 (.loop ir_undertowref20_Greatl1)))
 (.seq (.seq (.reg [⟨.mv (.c (.bool false)), none⟩] [] [] [(2, 0, none)])
 (.drop [1, 4, 8] [(true, 0)]))
 (.ret)))))⟩
/-- 9: undertow/cand.Events -/
def h9 : Vm.Hint := ⟨[0, 1, 2, 3, 4, 5, 6, 7, 8, 9, 11, 12, 13, 16, 17, 18, 19, 25, 43], [1, 7, 9], [3], [[1, 0], [1], [0, 0, 0], [0], [0, 0, 0, 0], [0, 0, 0], [0], [0, 0, 0, 2, 0, 0], [0, 0, 0], [0, 0, 0, 0, 0], [0, 0, 0, 0, 0, 0, 0, 0, 0, 0, 3, 0], [0, 0, 0, 0], [0, 0, 0, 0, 0, 0], [0, 0, 1, 2, 0], [0, 0], [0, 0], [0, 0]], [([0, 2], []), ([], []), ([1], [(true, 0)]), ([], []), ([12], []), ([5], []), ([], []), ([16], []), ([], []), ([17], []), ([6, 8], []), ([], []), ([7, 18], [(true, 1)]), ([7, 9, 18], [(true, 2), (true, 1)]), ([6, 7, 17], [(true, 1)]), ([4, 13, 14, 15, 16], []), ([3, 10, 11, 12], [(false, 0)])], []⟩
def ir_cand_Eventsl0 : C :=
 .seq (.reg [⟨.bin .lss (.s 15) (.s 14), none⟩] [] [] [(16, 0, none)])
 (.seq (.cond (.s 16) (.skip)
  (.exit 2))
 (.seq (.block 3 (.seq (.seq (.reg [⟨.mv (.s 15), none⟩,
    ⟨.iaS 27 (.s 13) (.s 15), none⟩,
    ⟨.load 0 true 27 (.r 1), none⟩,
    ⟨.lalloc 1 [.int .u64 0, .int .i64 0, .int .i64 0, .int .i64 0, .int .i64 0, .int .i64 0, .bool false, .bool false, .int .i64 0, .int .i64 0, .int .i64 0, .int .u64 0, .int .u64 0, .int .u64 0, .int .u64 0, .bool false, .int .i64 0, .flt 0, .int .i64 0, .int .i64 0, .int .i64 0, .int .i64 0, .int .i64 0, .int .i64 0, .int .i64 0, .int .i64 0, .int .i64 0], none⟩,
    ⟨.mv (.r 0), none⟩,
    ⟨.store 0 27 (.r 3) (.r 2), none⟩] [(true, 1)] [] [(6, 4, none), (7, 3, some 3)])
  (.drop [16] []))
  (.seq (.seq (.reg [⟨.load 0 true 27 (.s 7), none⟩,
    ⟨.call .val n_cand_isEvent [(.r 0)], none⟩,
    ⟨.un .not (.r 1), none⟩] [] [] [(17, 2, none)])
  (.cond (.s 17) (.exit 3)
   (.skip)))
  (.seq (.seq (.reg [⟨.off 0 (.s 7), none⟩,
    ⟨.off 1 (.r 0), none⟩,
    ⟨.off 0 (.r 1), none⟩,
    ⟨.load 0 false 1 (.r 2), none⟩,
    ⟨.mv (.r 3), none⟩] [] [] [(8, 4, none)])
  (.drop [17] []))
  (.seq (.seq (.reg [⟨.mv (.s 4), none⟩,
    ⟨.mv (.s 6), none⟩,
    ⟨.load 0 true 27 (.s 7), none⟩,
    ⟨.mv (.s 8), none⟩,
    ⟨.call .val n_ops_Loads [(.r 3)], none⟩,
    ⟨.mv (.s 8), none⟩,
    ⟨.call .val n_ops_Stores [(.r 5)], none⟩,
    ⟨.mv (.s 8), none⟩,
    ⟨.call .val n_ops_Size [(.r 7)], none⟩,
    ⟨.build [.int .i64 0, .int .i64 0, .int .u64 0, .int .i64 0, .int .i64 0, .int .i64 0, .int .i64 0, .int .i64 0, .bool false, .bool false, .int .i64 0, .int .i64 0, .int .i64 0, .int .u64 0, .int .u64 0, .int .u64 0, .int .u64 0, .bool false, .int .i64 0, .flt 0, .int .i64 0, .int .i64 0, .int .i64 0, .int .i64 0, .int .i64 0, .int .i64 0, .int .i64 0, .int .i64 0, .int .i64 0, .bool false, .bool false, .int .i64 0, .int .i64 0] [(0, 1, (.r 0)), (1, 1, (.r 1)), (2, 27, (.r 2)), (29, 1, (.r 4)), (30, 1, (.r 6)), (31, 1, (.c (.int .i64 (-1)))), (32, 1, (.r 8))], none⟩,
    ⟨.lalloc 2 [.int .i64 0, .int .i64 0, .int .u64 0, .int .i64 0, .int .i64 0, .int .i64 0, .int .i64 0, .int .i64 0, .bool false, .bool false, .int .i64 0, .int .i64 0, .int .i64 0, .int .u64 0, .int .u64 0, .int .u64 0, .int .u64 0, .bool false, .int .i64 0, .flt 0, .int .i64 0, .int .i64 0, .int .i64 0, .int .i64 0, .int .i64 0, .int .i64 0, .int .i64 0, .int .i64 0, .int .i64 0, .bool false, .bool false, .int .i64 0, .int .i64 0], none⟩,
    ⟨.store 0 33 (.r 10) (.r 9), none⟩] [(true, 2)] [(2, 4), (2, 6), (2, 8), (2, 10), (4, 10), (6, 10), (8, 10)] [(9, 10, some 5)])
  (.drop [6, 8] []))
  (.seq (.seq (.reg [⟨.off 0 (.s 7), none⟩,
    ⟨.off 12 (.r 0), none⟩,
    ⟨.load 0 false 1 (.r 1), none⟩,
    ⟨.bin .leq (.r 2) (.c (.int .u64 1024)), none⟩] [] [] [(18, 3, none)])
  (.cond (.s 18) (.seq (.reg [⟨.off 0 (.s 7), none⟩,
     ⟨.off 12 (.r 0), none⟩,
     ⟨.load 0 false 1 (.r 1), none⟩,
     ⟨.i2i .i64 (.r 2), none⟩,
     ⟨.off 31 (.s 9), none⟩,
     ⟨.store 0 1 (.r 4) (.r 3), none⟩] [] [] [])
   (.drop [7, 18] [(true, 1)]))
   (.skip)))
  (.seq (.reg [⟨.mv (.s 3), none⟩,
    ⟨.load 0 true 33 (.s 9), none⟩,
    ⟨.lit 1 33 [[.int .i64 0, .int .i64 0, .int .u64 0, .int .i64 0, .int .i64 0, .int .i64 0, .int .i64 0, .int .i64 0, .bool false, .bool false, .int .i64 0, .int .i64 0, .int .i64 0, .int .u64 0, .int .u64 0, .int .u64 0, .int .u64 0, .bool false, .int .i64 0, .flt 0, .int .i64 0, .int .i64 0, .int .i64 0, .int .i64 0, .int .i64 0, .int .i64 0, .int .i64 0, .int .i64 0, .int .i64 0, .bool false, .bool false, .int .i64 0, .int .i64 0]] [(0, (.r 1))], none⟩,
    ⟨.app 2 33 248 (.r 0) (.r 2), none⟩,
    ⟨.mv (.r 3), none⟩] [] [] [(3, 4, some 0)])
  (.drop [7, 9, 18] [(true, 2), (true, 1)]))))))))
 (.seq (.reg [⟨.bin .add (.s 15) (.c (.int .i64 1)), none⟩,
   ⟨.mv (.r 0), none⟩] [] [] [(15, 1, none)])
 (.drop [6, 7, 17] [(true, 1)]))))
def ir_cand_Eventsl1 : C :=
 .seq (.reg [⟨.bin .lss (.s 11) (.c (.int .i64 3)), none⟩] [] [] [(12, 0, none)])
 (.seq (.cond (.s 12) (.skip)
  (.exit 0))
 (.seq (.block 1 (.seq (.seq (.reg [⟨.mv (.s 11), none⟩,
    ⟨.ixA 3 1 false (.s 10) (.s 11), none⟩,
    ⟨.mv (.r 0), none⟩,
    ⟨.mv (.r 1), none⟩] [] [] [(4, 2, none), (5, 3, none)])
  (.drop [12] []))
  (.seq (.seq (.reg [⟨.mv (.s 5), none⟩,
    ⟨.len 1 (.r 0), none⟩,
    ⟨.mv (.c (.int .i64 0)), none⟩] [] [] [(13, 0, none), (14, 1, none), (15, 2, none)])
  (.drop [5] []))
  (.block 2 (.loop ir_cand_Eventsl0)))))
 (.seq (.reg [⟨.bin .add (.s 11) (.c (.int .i64 1)), none⟩,
   ⟨.mv (.r 0), none⟩] [] [] [(11, 1, none)])
 (.drop [4, 13, 14, 15, 16] []))))
def ir_cand_Events : Vm.Fn := ⟨[0, 1, 2, 3, 4, 5, 6, 7, 8, 9, 11, 12, 13, 16, 17, 18, 19, 25, 43], 3, 1, [.slot 2],
 .seq (.seq (.reg [⟨.lbox 0 5 (.s 0), none⟩,
   ⟨.mv (.c (.nils)), none⟩] [(true, 0)] [] [(1, 0, some 1), (2, 1, none)])
 (.drop [0, 2] []))
 (.seq (.reg [⟨.onil 0, none⟩] [(false, 0)] [] [(3, 0, some 0)])
 (.seq (.seq (.seq (.reg [⟨.off 1 (.s 1), none⟩,
   ⟨.load 0 true 3 (.r 0), none⟩,
   ⟨.mv (.c (.int .i64 0)), none⟩] [] [] [(10, 1, none), (11, 2, none)])
 (.drop [1] [(true, 0)]))
 (.block 0 (.loop ir_cand_Eventsl1)))
 (.seq (.seq (.reg [⟨.mv (.s 3), none⟩,
   ⟨.mv (.r 0), none⟩] [] [] [(2, 1, none)])
 (.drop [3, 10, 11, 12] [(false, 0)]))
 (.ret))))⟩
/-- 10: undertow/undertowref20.Events -/
def h10 : Vm.Hint := ⟨[0, 1, 2, 3, 4, 5, 6, 7, 8, 10, 19, 31, 69], [1, 6, 8], [3], [[1, 0], [1], [0], [0, 0], [0, 0, 0], [0], [0, 0, 0, 0, 0, 0, 0], [0, 0, 0], [0, 0, 0, 0, 0, 0, 0, 2, 0], [0, 0, 0], [0, 0, 0, 0, 0, 0], [0, 0, 0, 0, 0, 0, 0, 0, 0, 0, 0, 0, 0, 0, 0, 0, 0, 0, 0, 0, 0, 0, 0, 0, 0, 0, 0, 0, 0, 3, 0], [0, 0, 0, 0], [0, 0], [0, 0, 0, 0, 0, 0], [0, 0, 1, 2, 0], [0, 0]], [([0, 2], []), ([], []), ([], []), ([], []), ([5, 10], []), ([9], []), ([], []), ([6, 11], [(true, 1)]), ([10], []), ([], []), ([11], []), ([7], []), ([], []), ([6, 12], [(true, 1)]), ([6, 12], [(true, 1)]), ([8], [(true, 2)]), ([1, 3, 4, 9], [(true, 0), (false, 0)])], []⟩
def ir_undertowref20_Eventsl0 : C :=
 .seq (.seq (.reg [⟨.mv (.s 5), none⟩,
   ⟨.mv (.s 4), none⟩,
   ⟨.off 1 (.s 1), none⟩,
   ⟨.iaA 3 1 (.r 2) (.r 1), none⟩,
   ⟨.load 0 false 1 (.r 3), none⟩,
   ⟨.len 1 (.r 4), none⟩,
   ⟨.bin .lss (.r 0) (.r 5), none⟩] [] [] [(10, 6, none)])
 (.cond (.s 10) (.skip)
  (.exit 2)))
 (.seq (.block 3 (.seq (.seq (.reg [⟨.mv (.s 4), none⟩,
    ⟨.off 1 (.s 1), none⟩,
    ⟨.iaA 3 1 (.r 1) (.r 0), none⟩,
    ⟨.load 0 false 1 (.r 2), none⟩,
    ⟨.mv (.s 5), none⟩,
    ⟨.iaS 27 (.r 3) (.r 4), none⟩,
    ⟨.load 0 true 27 (.r 5), none⟩,
    ⟨.lalloc 1 [.int .u64 0, .int .i64 0, .int .i64 0, .int .i64 0, .int .i64 0, .int .i64 0, .bool false, .bool false, .int .i64 0, .int .i64 0, .int .i64 0, .int .u64 0, .int .u64 0, .int .u64 0, .int .u64 0, .bool false, .int .i64 0, .flt 0, .int .i64 0, .int .i64 0, .int .i64 0, .int .i64 0, .int .i64 0, .int .i64 0, .int .i64 0, .int .i64 0, .int .i64 0], none⟩,
    ⟨.store 0 27 (.r 7) (.r 6), none⟩] [(true, 1)] [] [(6, 7, some 3)])
  (.drop [10] []))
  (.seq (.seq (.reg [⟨.load 0 true 27 (.s 6), none⟩,
    ⟨.call .val n_undertowref20_IsEvent [(.r 0)], none⟩,
    ⟨.un .not (.r 1), none⟩] [] [] [(11, 2, none)])
  (.cond (.s 11) (.exit 3)
   (.skip)))
  (.seq (.seq (.reg [⟨.off 0 (.s 6), none⟩,
    ⟨.off 1 (.r 0), none⟩,
    ⟨.off 0 (.r 1), none⟩,
    ⟨.load 0 false 1 (.r 2), none⟩,
    ⟨.call .val n_undertowref05_Sort [(.r 3)], none⟩,
    ⟨.mv (.r 4), none⟩] [] [] [(7, 5, none)])
  (.drop [11] []))
  (.seq (.seq (.reg [⟨.mv (.s 4), none⟩,
    ⟨.mv (.s 5), none⟩,
    ⟨.load 0 true 27 (.s 6), none⟩,
    ⟨.mv (.s 7), none⟩,
    ⟨.bin .eql (.r 3) (.c (.int .i64 4)), none⟩,
    ⟨.mv (.r 4), none⟩,
    ⟨.mv (.s 7), some (5, false)⟩,
    ⟨.bin .eql (.r 6) (.c (.int .i64 10)), some (5, false)⟩,
    ⟨.pick (.r 5) (.c (.bool true)) (.r 7), none⟩,
    ⟨.mv (.r 8), none⟩,
    ⟨.mv (.s 7), some (9, false)⟩,
    ⟨.bin .eql (.r 10) (.c (.int .i64 12)), some (9, false)⟩,
    ⟨.pick (.r 9) (.c (.bool true)) (.r 11), none⟩,
    ⟨.mv (.s 7), none⟩,
    ⟨.bin .eql (.r 13) (.c (.int .i64 5)), none⟩,
    ⟨.mv (.r 14), none⟩,
    ⟨.mv (.s 7), some (15, false)⟩,
    ⟨.bin .eql (.r 16) (.c (.int .i64 11)), some (15, false)⟩,
    ⟨.pick (.r 15) (.c (.bool true)) (.r 17), none⟩,
    ⟨.mv (.r 18), none⟩,
    ⟨.mv (.s 7), some (19, false)⟩,
    ⟨.bin .eql (.r 20) (.c (.int .i64 12)), some (19, false)⟩,
    ⟨.pick (.r 19) (.c (.bool true)) (.r 21), none⟩,
    ⟨.off 0 (.s 6), none⟩,
    ⟨.off 1 (.r 23), none⟩,
    ⟨.off 0 (.r 24), none⟩,
    ⟨.load 0 false 1 (.r 25), none⟩,
    ⟨.call .val n_undertowref05_Size [(.r 26)], none⟩,
    ⟨.build [.int .i64 0, .int .i64 0, .int .u64 0, .int .i64 0, .int .i64 0, .int .i64 0, .int .i64 0, .int .i64 0, .bool false, .bool false, .int .i64 0, .int .i64 0, .int .i64 0, .int .u64 0, .int .u64 0, .int .u64 0, .int .u64 0, .bool false, .int .i64 0, .flt 0, .int .i64 0, .int .i64 0, .int .i64 0, .int .i64 0, .int .i64 0, .int .i64 0, .int .i64 0, .int .i64 0, .int .i64 0, .bool false, .bool false, .int .i64 0, .int .i64 0] [(0, 1, (.r 0)), (1, 1, (.r 1)), (2, 27, (.r 2)), (29, 1, (.r 12)), (30, 1, (.r 22)), (32, 1, (.r 27))], none⟩,
    ⟨.lalloc 2 [.int .i64 0, .int .i64 0, .int .u64 0, .int .i64 0, .int .i64 0, .int .i64 0, .int .i64 0, .int .i64 0, .bool false, .bool false, .int .i64 0, .int .i64 0, .int .i64 0, .int .u64 0, .int .u64 0, .int .u64 0, .int .u64 0, .bool false, .int .i64 0, .flt 0, .int .i64 0, .int .i64 0, .int .i64 0, .int .i64 0, .int .i64 0, .int .i64 0, .int .i64 0, .int .i64 0, .int .i64 0, .bool false, .bool false, .int .i64 0, .int .i64 0], none⟩,
    ⟨.store 0 33 (.r 29) (.r 28), none⟩] [(true, 2)] [(2, 26), (2, 27), (2, 29), (26, 29), (27, 29)] [(8, 29, some 5)])
  (.drop [7] []))
  (.seq (.seq (.reg [⟨.off 0 (.s 6), none⟩,
    ⟨.off 12 (.r 0), none⟩,
    ⟨.load 0 false 1 (.r 1), none⟩,
    ⟨.bin .gtr (.r 2) (.c (.int .u64 1024)), none⟩] [] [] [(12, 3, none)])
  (.cond (.s 12) (.seq (.reg [⟨.off 31 (.s 8), none⟩,
     ⟨.store 0 1 (.r 0) (.c (.int .i64 (-1))), none⟩] [] [] [])
   (.drop [6, 12] [(true, 1)]))
   (.seq (.reg [⟨.off 0 (.s 6), none⟩,
     ⟨.off 12 (.r 0), none⟩,
     ⟨.load 0 false 1 (.r 1), none⟩,
     ⟨.i2i .i64 (.r 2), none⟩,
     ⟨.off 31 (.s 8), none⟩,
     ⟨.store 0 1 (.r 4) (.r 3), none⟩] [] [] [])
   (.drop [6, 12] [(true, 1)]))))
  (.seq (.reg [⟨.mv (.s 3), none⟩,
    ⟨.load 0 true 33 (.s 8), none⟩,
    ⟨.lit 1 33 [[.int .i64 0, .int .i64 0, .int .u64 0, .int .i64 0, .int .i64 0, .int .i64 0, .int .i64 0, .int .i64 0, .bool false, .bool false, .int .i64 0, .int .i64 0, .int .i64 0, .int .u64 0, .int .u64 0, .int .u64 0, .int .u64 0, .bool false, .int .i64 0, .flt 0, .int .i64 0, .int .i64 0, .int .i64 0, .int .i64 0, .int .i64 0, .int .i64 0, .int .i64 0, .int .i64 0, .int .i64 0, .bool false, .bool false, .int .i64 0, .int .i64 0]] [(0, (.r 1))], none⟩,
    ⟨.app 2 33 248 (.r 0) (.r 2), none⟩,
    ⟨.mv (.r 3), none⟩] [] [] [(3, 4, some 0)])
  (.drop [8] [(true, 2)]))))))))
 (.seq (.reg [⟨.mv (.s 5), none⟩,
   ⟨.bin .add (.r 0) (.c (.int .i64 1)), none⟩,
   ⟨.mv (.r 1), none⟩] [] [] [(5, 2, none)])
 (.drop [6, 11] [(true, 1)])))
def ir_undertowref20_Eventsl1 : C :=
 .seq (.seq (.reg [⟨.mv (.s 4), none⟩,
   ⟨.bin .lss (.r 0) (.c (.int .i64 3)), none⟩] [] [] [(9, 1, none)])
 (.cond (.s 9) (.skip)
  (.exit 0)))
 (.seq (.block 1 (.seq (.seq (.reg [⟨.mv (.c (.int .i64 0)), none⟩] [] [] [(5, 0, none)])
  (.drop [9] []))
  (.block 2 (.loop ir_undertowref20_Eventsl0))))
 (.seq (.reg [⟨.mv (.s 4), none⟩,
   ⟨.bin .add (.r 0) (.c (.int .i64 1)), none⟩,
   ⟨.mv (.r 1), none⟩] [] [] [(4, 2, none)])
 (.drop [5, 10] [])))
def ir_undertowref20_Events : Vm.Fn := ⟨[0, 1, 2, 3, 4, 5, 6, 7, 8, 10, 19, 31, 69], 3, 1, [.slot 2],
 .seq (.seq (.reg [⟨.lbox 0 5 (.s 0), none⟩,
   ⟨.mv (.c (.nils)), none⟩] [(true, 0)] [] [(1, 0, some 1), (2, 1, none)])
 (.drop [0, 2] []))
 (.seq (.reg [⟨.onil 0, none⟩] [(false, 0)] [] [(3, 0, some 0)])
 (.seq (.seq (.reg [⟨.mv (.c (.int .i64 0)), none⟩] [] [] [(4, 0, none)])
 (.block 0 (.loop ir_undertowref20_Eventsl1)))
 (.seq (.seq (.reg [⟨.mv (.s 3), none⟩,
   ⟨.mv (.r 0), none⟩] [] [] [(2, 1, none)])
 (.drop [1, 3, 4, 9] [(true, 0), (false, 0)]))
 (.ret))))⟩
/-- 11: undertow/undertowref20.SameEvents -/
def h11 : Vm.Hint := ⟨[0, 1, 4, 5, 6, 7, 12, 16, 33], [6, 7], [], [[0], [0, 0, 0, 0, 0], [0], [0], [0, 0, 0, 0], [0, 0, 0], [0, 0, 0, 0, 0, 0, 0, 0, 1, 2, 0, 0], [0, 0, 0], [0, 0, 0], [0, 0, 0], [0], [0]], [([2], []), ([], []), ([0, 1, 6], []), ([6], []), ([], []), ([8], []), ([7], []), ([], []), ([], []), ([4, 5], [(true, 0), (true, 1)]), ([0, 1, 3, 8], []), ([0, 1, 3, 7], [])], []⟩
def ir_undertowref20_SameEventsl0 : C :=
 .seq (.seq (.reg [⟨.mv (.s 3), none⟩,
   ⟨.mv (.s 0), none⟩,
   ⟨.len 1 (.r 1), none⟩,
   ⟨.bin .lss (.r 0) (.r 2), none⟩] [] [] [(7, 3, none)])
 (.cond (.s 7) (.skip)
  (.exit 0)))
 (.seq (.block 1 (.seq (.seq (.reg [⟨.mv (.s 0), none⟩,
    ⟨.mv (.s 3), none⟩,
    ⟨.iaS 33 (.r 0) (.r 1), none⟩,
    ⟨.load 0 true 33 (.r 2), none⟩,
    ⟨.mv (.s 1), none⟩,
    ⟨.mv (.s 3), none⟩,
    ⟨.iaS 33 (.r 4) (.r 5), none⟩,
    ⟨.load 0 true 33 (.r 6), none⟩,
    ⟨.lalloc 0 [.int .i64 0, .int .i64 0, .int .u64 0, .int .i64 0, .int .i64 0, .int .i64 0, .int .i64 0, .int .i64 0, .bool false, .bool false, .int .i64 0, .int .i64 0, .int .i64 0, .int .u64 0, .int .u64 0, .int .u64 0, .int .u64 0, .bool false, .int .i64 0, .flt 0, .int .i64 0, .int .i64 0, .int .i64 0, .int .i64 0, .int .i64 0, .int .i64 0, .int .i64 0, .int .i64 0, .int .i64 0, .bool false, .bool false, .int .i64 0, .int .i64 0], none⟩,
    ⟨.lalloc 1 [.int .i64 0, .int .i64 0, .int .u64 0, .int .i64 0, .int .i64 0, .int .i64 0, .int .i64 0, .int .i64 0, .bool false, .bool false, .int .i64 0, .int .i64 0, .int .i64 0, .int .u64 0, .int .u64 0, .int .u64 0, .int .u64 0, .bool false, .int .i64 0, .flt 0, .int .i64 0, .int .i64 0, .int .i64 0, .int .i64 0, .int .i64 0, .int .i64 0, .int .i64 0, .int .i64 0, .int .i64 0, .bool false, .bool false, .int .i64 0, .int .i64 0], none⟩,
    ⟨.store 0 33 (.r 8) (.r 3), none⟩,
    ⟨.store 0 33 (.r 9) (.r 7), none⟩] [(true, 0), (true, 1)] [(2, 6), (2, 7), (2, 8), (2, 9), (3, 6), (3, 7), (3, 8), (3, 9), (6, 8), (6, 9), (6, 10), (7, 8), (7, 9), (7, 10), (8, 9)] [(4, 8, some 1), (5, 9, some 3)])
  (.drop [7] []))
  (.seq (.reg [⟨.off 2 (.s 4), none⟩,
    ⟨.off 17 (.r 0), none⟩,
    ⟨.store 0 1 (.r 1) (.c (.flt 0)), none⟩] [] [] [])
  (.seq (.reg [⟨.off 2 (.s 5), none⟩,
    ⟨.off 17 (.r 0), none⟩,
    ⟨.store 0 1 (.r 1) (.c (.flt 0)), none⟩] [] [] [])
  (.seq (.seq (.reg [⟨.load 0 true 33 (.s 4), none⟩,
    ⟨.load 0 true 33 (.s 5), none⟩,
    ⟨.eqa true [.int, .int, .int, .int, .int, .int, .int, .int, .bool, .bool, .int, .int, .int, .int, .int, .int, .int, .bool, .int, .flt, .int, .int, .int, .int, .int, .int, .int, .int, .int, .bool, .bool, .int, .int] (.r 0) (.r 1), none⟩] [] [] [(8, 2, none)])
  (.drop [4, 5] [(true, 0), (true, 1)]))
  (.cond (.s 8) (.seq (.seq (.reg [⟨.mv (.c (.bool false)), none⟩] [] [] [(2, 0, none)])
   (.drop [0, 1, 3, 8] []))
   (.ret))
   (.skip)))))))
 (.seq (.reg [⟨.mv (.s 3), none⟩,
   ⟨.bin .add (.r 0) (.c (.int .i64 1)), none⟩,
   ⟨.mv (.r 1), none⟩] [] [] [(3, 2, none)])
 (.drop [8] [])))
def ir_undertowref20_SameEvents : Vm.Fn := ⟨[0, 1, 4, 5, 6, 7, 12, 16, 33], 2, 0, [.slot 2],
 .seq (.seq (.reg [⟨.mv (.c (.bool false)), none⟩] [] [] [(2, 0, none)])
 (.drop [2] []))
 (.seq (.seq (.reg [⟨.mv (.s 0), none⟩,
   ⟨.len 1 (.r 0), none⟩,
   ⟨.mv (.s 1), none⟩,
   ⟨.len 1 (.r 2), none⟩,
   ⟨.bin .neq (.r 1) (.r 3), none⟩] [] [] [(6, 4, none)])
 (.cond (.s 6) (.seq (.seq (.reg [⟨.mv (.c (.bool false)), none⟩] [] [] [(2, 0, none)])
  (.drop [0, 1, 6] []))
  (.ret))
  (.skip)))
 (.seq (.seq (.seq (.reg [⟨.mv (.c (.int .i64 0)), none⟩] [] [] [(3, 0, none)])
 (.drop [6] []))
 (.block 0 (.loop ir_undertowref20_SameEventsl0)))
 (.seq (.seq (.reg [⟨.mv (.c (.bool true)), none⟩] [] [] [(2, 0, none)])
 (.drop [0, 1, 3, 7] []))
 (.ret))))⟩
/-- 12: undertow/cand.Find -/
def h12 : Vm.Hint := ⟨[0, 1, 3, 4], [], [], [[0, 0], [0, 0, 0, 0]], [([1, 3], []), ([0, 2], [])], []⟩
def ir_cand_Find : Vm.Fn := ⟨[0, 1, 3, 4], 0, 0, [.slot 3],
 .seq (.seq (.reg [⟨.hbox 1 (.s 1), none⟩,
   ⟨.mv (.c (.int .i64 0)), none⟩] [] [] [(2, 0, none), (3, 1, none)])
 (.drop [1, 3] []))
 (.seq (.seq (.reg [⟨.mv (.s 0), none⟩,
   ⟨.mkfn 25 [] [(.s 2)], none⟩,
   ⟨.call .val n_slices_IndexFunc_api_Event_api_Event [(.r 0), (.r 1)], none⟩,
   ⟨.mv (.r 2), none⟩] [] [] [(3, 3, none)])
 (.drop [0, 2] []))
 (.ret))⟩
/-- 13: undertow/undertowref20.Find -/
def h13 : Vm.Hint := ⟨[0, 1, 4, 5, 9, 19], [], [], [[0], [0], [0, 0, 0, 0], [0, 0, 0], [0, 0, 0, 0, 0, 0, 0, 0], [0, 0], [0]], [([2], []), ([], []), ([], []), ([5], []), ([4], []), ([0, 1, 3, 5], []), ([0, 1, 3, 4], [])], []⟩
def ir_undertowref20_Findl0 : C :=
 .seq (.seq (.reg [⟨.mv (.s 3), none⟩,
   ⟨.mv (.s 0), none⟩,
   ⟨.len 1 (.r 1), none⟩,
   ⟨.bin .lss (.r 0) (.r 2), none⟩] [] [] [(4, 3, none)])
 (.cond (.s 4) (.skip)
  (.exit 0)))
 (.seq (.block 1 (.seq (.seq (.reg [⟨.mv (.s 0), none⟩,
    ⟨.mv (.s 3), none⟩,
    ⟨.iaS 33 (.r 0) (.r 1), none⟩,
    ⟨.off 2 (.r 2), none⟩,
    ⟨.off 16 (.r 3), none⟩,
    ⟨.load 0 false 1 (.r 4), none⟩,
    ⟨.mv (.s 1), none⟩,
    ⟨.bin .eql (.r 5) (.r 6), none⟩] [] [] [(5, 7, none)])
  (.drop [4] []))
  (.cond (.s 5) (.seq (.seq (.reg [⟨.mv (.s 3), none⟩,
     ⟨.mv (.r 0), none⟩] [] [] [(2, 1, none)])
   (.drop [0, 1, 3, 5] []))
   (.ret))
   (.skip))))
 (.seq (.reg [⟨.mv (.s 3), none⟩,
   ⟨.bin .add (.r 0) (.c (.int .i64 1)), none⟩,
   ⟨.mv (.r 1), none⟩] [] [] [(3, 2, none)])
 (.drop [5] [])))
def ir_undertowref20_Find : Vm.Fn := ⟨[0, 1, 4, 5, 9, 19], 0, 0, [.slot 2],
 .seq (.seq (.reg [⟨.mv (.c (.int .i64 0)), none⟩] [] [] [(2, 0, none)])
 (.drop [2] []))
 (.seq (.seq (.reg [⟨.mv (.c (.int .i64 0)), none⟩] [] [] [(3, 0, none)])
 (.block 0 (.loop ir_undertowref20_Findl0)))
 (.seq (.seq (.reg [⟨.mv (.c (.int .i64 (-1))), none⟩] [] [] [(2, 0, none)])
 (.drop [0, 1, 3, 4] []))
 (.ret)))⟩
/-- 14: undertow/cand.Check -/
def h14 : Vm.Hint := ⟨[0, 1, 2, 3, 4, 5, 6, 7, 14, 15, 16, 17, 28, 29, 30, 31, 38], [1, 3, 5, 7], [], [[1, 0], [0, 0, 0, 0, 0, 2, 0], [0, 0, 0, 0], [0], [0, 0, 0, 3, 0, 0], [0, 0, 0, 0, 0, 0, 0], [0, 0], [0, 0, 0], [0], [0, 0, 0, 4, 0, 0], [0, 0, 0, 1], [0, 0, 0], [0, 0], [0]], [([0, 2], []), ([1], [(true, 0)]), ([], []), ([], []), ([11], []), ([4, 5], [(true, 2)]), ([], []), ([8, 9, 10, 11], []), ([], []), ([15], []), ([7], [(true, 3)]), ([3, 6, 12, 13, 14, 16], [(true, 1)]), ([6, 16], []), ([3, 12, 13, 14, 15], [(true, 1)])], []⟩
def ir_cand_Checkl0 : C :=
 .seq (.reg [⟨.bin .lss (.s 10) (.s 9), none⟩] [] [] [(11, 0, none)])
 (.seq (.cond (.s 11) (.skip)
  (.exit 0))
 (.seq (.block 1 (.seq (.seq (.reg [⟨.mv (.s 10), none⟩,
    ⟨.iaS 33 (.s 8) (.s 10), none⟩,
    ⟨.load 0 true 33 (.r 1), none⟩,
    ⟨.lalloc 2 [.int .i64 0, .int .i64 0, .int .u64 0, .int .i64 0, .int .i64 0, .int .i64 0, .int .i64 0, .int .i64 0, .bool false, .bool false, .int .i64 0, .int .i64 0, .int .i64 0, .int .u64 0, .int .u64 0, .int .u64 0, .int .u64 0, .bool false, .int .i64 0, .flt 0, .int .i64 0, .int .i64 0, .int .i64 0, .int .i64 0, .int .i64 0, .int .i64 0, .int .i64 0, .int .i64 0, .int .i64 0, .bool false, .bool false, .int .i64 0, .int .i64 0], none⟩,
    ⟨.mv (.r 0), none⟩,
    ⟨.store 0 33 (.r 3) (.r 2), none⟩] [(true, 2)] [] [(4, 4, none), (5, 3, some 5)])
  (.drop [11] []))
  (.seq (.reg [⟨.off 6 (.s 3), none⟩,
    ⟨.load 0 false 1 (.r 0), none⟩,
    ⟨.off 2 (.s 5), none⟩,
    ⟨.off 16 (.r 2), none⟩,
    ⟨.load 0 false 1 (.r 3), none⟩,
    ⟨.mv (.s 4), none⟩,
    ⟨.mput (.r 1) (.r 4) (.r 5), none⟩] [] [] [])
  (.drop [4, 5] [(true, 2)]))))
 (.reg [⟨.bin .add (.s 10) (.c (.int .i64 1)), none⟩,
   ⟨.mv (.r 0), none⟩] [] [] [(10, 1, none)])))
def ir_cand_Checkl1 : C :=
 .seq (.reg [⟨.bin .lss (.s 14) (.s 13), none⟩] [] [] [(15, 0, none)])
 (.seq (.cond (.s 15) (.skip)
  (.exit 2))
 (.seq (.block 3 (.seq (.seq (.reg [⟨.mv (.s 14), none⟩,
    ⟨.iaS 1 (.s 12) (.s 14), none⟩,
    ⟨.load 0 true 1 (.r 1), none⟩,
    ⟨.lalloc 3 [.nilf], none⟩,
    ⟨.mv (.r 0), none⟩,
    ⟨.store 0 1 (.r 3) (.r 2), none⟩] [(true, 3)] [] [(6, 4, none), (7, 3, some 7)])
  (.drop [15] []))
  (.seq (.seq (.reg [⟨.off 0 (.s 7), none⟩,
    ⟨.load 0 false 1 (.r 0), none⟩,
    ⟨.load 0 true 7 (.s 3), none⟩,
    ⟨.callv .heap (.r 1) [(.r 2)], none⟩] [] [] [(16, 3, none)])
  (.drop [7] [(true, 3)]))
  (.cond (.s 16) (.seq (.seq (.reg [⟨.mv (.s 6), none⟩,
     ⟨.bin .add (.r 0) (.c (.int .i64 1)), none⟩,
     ⟨.mv (.r 1), none⟩] [] [] [(2, 2, none)])
   (.drop [3, 6, 12, 13, 14, 16] [(true, 1)]))
   (.ret))
   (.skip)))))
 (.seq (.reg [⟨.bin .add (.s 14) (.c (.int .i64 1)), none⟩,
   ⟨.mv (.r 0), none⟩] [] [] [(14, 1, none)])
 (.drop [6, 16] []))))
def ir_cand_Check : Vm.Fn := ⟨[0, 1, 2, 3, 4, 5, 6, 7, 14, 15, 16, 17, 28, 29, 30, 31, 38], 4, 0, [.slot 2],
 .seq (.seq (.reg [⟨.lbox 0 5 (.s 0), none⟩,
   ⟨.mv (.c (.int .i64 0)), none⟩] [(true, 0)] [] [(1, 0, some 1), (2, 1, none)])
 (.drop [0, 2] []))
 (.seq (.seq (.reg [⟨.load 0 true 5 (.s 1), none⟩,
   ⟨.load 0 true 5 (.s 1), none⟩,
   ⟨.call .val n_cand_Events [(.r 1)], none⟩,
   ⟨.mkmap, none⟩,
   ⟨.build [.nils, .nils, .nils, .nils, .nils, .nils, .nilm] [(0, 5, (.r 0)), (5, 1, (.r 2)), (6, 1, (.r 3))], none⟩,
   ⟨.lalloc 1 [.nils, .nils, .nils, .nils, .nils, .nils, .nilm], none⟩,
   ⟨.store 0 7 (.r 5) (.r 4), none⟩] [(true, 1)] [(0, 1), (0, 2), (0, 3), (0, 5), (1, 3), (1, 5), (2, 3), (2, 5), (3, 5)] [(3, 5, some 3)])
 (.drop [1] [(true, 0)]))
 (.seq (.seq (.reg [⟨.off 5 (.s 3), none⟩,
   ⟨.load 0 false 1 (.r 0), none⟩,
   ⟨.len 1 (.r 1), none⟩,
   ⟨.mv (.c (.int .i64 0)), none⟩] [] [] [(8, 1, none), (9, 2, none), (10, 3, none)])
 (.block 0 (.loop ir_cand_Checkl0)))
 (.seq (.seq (.seq (.reg [⟨.call .val n_cand_faults [], none⟩,
   ⟨.len 1 (.r 0), none⟩,
   ⟨.mv (.c (.int .i64 0)), none⟩] [] [] [(12, 0, none), (13, 1, none), (14, 2, none)])
 (.drop [8, 9, 10, 11] []))
 (.block 2 (.loop ir_cand_Checkl1)))
 (.seq (.seq (.reg [⟨.mv (.c (.int .i64 0)), none⟩] [] [] [(2, 0, none)])
 (.drop [3, 12, 13, 14, 15] [(true, 1)]))
 (.ret)))))⟩
/-- 15: undertow/undertowref20.Check -/
def h15 : Vm.Hint := ⟨[0, 1, 2, 3, 4, 5, 6, 7, 8, 9, 10, 11, 12, 13, 14, 15, 16, 17, 18, 19, 20, 21, 22, 23, 24, 25, 26, 27, 28, 29, 30, 31, 44, 46, 54, 63, 67, 72, 85, 91, 97, 119, 123, 135, 178, 182, 198, 210, 238, 242, 253, 274, 294, 321, 326, 332, 347, 365, 369, 375, 390, 394, 396, 405, 426, 429, 461, 537], [1, 29], [3, 22], [[1, 0], [0, 0, 0, 0, 0, 0, 0, 0, 0, 0, 0, 0, 0], [0], [1], [0], [0, 0], [0, 0, 0], [0, 0, 0, 0, 0, 0], [0], [0, 0, 0, 0, 0, 2, 0], [0, 0, 0], [0], [0], [0, 0, 0, 0], [0, 0, 0], [0], [0, 0, 0], [0, 0, 0], [0, 0, 0, 0, 0, 0, 0, 0, 0, 0, 0], [0], [0, 0, 0, 0, 0, 0], [0], [0, 0, 0], [0], [0, 0, 0, 0], [0, 0, 0], [0, 0, 0, 0, 0, 0, 0, 0, 0, 0, 0, 0, 0, 0, 0, 0, 0, 0, 0, 0], [0], [0], [0, 0, 0, 0], [0, 0, 0], [0, 0, 0, 0, 0, 0, 0, 0, 0], [0], [0, 0], [0, 0, 0], [0, 0, 0, 0, 0, 0, 0, 0, 0, 0, 0, 0, 0, 0, 0, 0, 0, 0, 0, 0, 0, 0, 0, 0, 0, 0, 0, 0, 0, 0], [0, 0, 0, 0, 0, 0, 0, 0, 0, 0, 0, 0], [0], [0], [0, 0, 0, 0], [0, 0, 0], [0], [0, 0, 0, 0, 0, 0, 0, 0, 0, 0, 0, 0, 0, 0], [0, 0, 0], [0, 0, 0, 0, 0, 0, 0, 0, 0], [0, 0], [0, 0, 0, 0], [0, 0, 0, 0, 0, 0, 0, 0, 0, 0, 0, 0, 0, 0, 0, 0, 0, 0, 0, 0, 0, 0, 0, 0, 0], [0], [0], [0, 0, 0, 0], [0, 0, 0], [0], [0, 0, 0, 0, 0, 0, 0, 0, 0], [0, 0, 0], [0, 0, 0, 0, 0, 0, 0, 0, 0, 0, 0, 0, 0], [0], [0, 0, 0, 0, 0, 0, 0], [0, 0, 0, 0, 0, 0, 0, 0, 0, 0, 0, 0], [0, 0, 0, 0, 0, 0, 0, 0, 0], [0, 0, 0, 0, 0, 0, 0, 0, 0, 0, 0, 0, 0, 0, 0, 0, 0, 0, 0, 0, 0, 0, 0, 0, 0], [0, 0, 0], [0], [0], [0, 0, 0, 0, 0], [0, 0, 0], [2], [0], [0, 0, 0, 0], [0, 0, 0], [0, 0, 0, 0, 0, 0, 0, 0, 0, 0, 0, 0, 0], [0, 0, 0, 0, 0, 0, 0, 1, 2, 0], [0, 0, 0, 0, 0, 0, 0, 0, 0], [0], [0], [0, 0, 0, 0], [0, 0, 0], [0], [0], [0, 0, 0, 0], [0, 0, 0], [0, 0, 0, 0, 0, 0, 0, 0, 0, 0, 0, 0, 0], [0, 0, 0], [0, 0], [0], [0], [0, 0], [0, 0, 0], [0], [0, 0, 0, 0, 0, 0, 0], [0, 0, 0], [0, 0, 0, 0, 0, 0, 0, 2, 0], [0, 0, 0, 0, 0, 0], [0, 0, 0, 0, 0, 0, 0], [0, 0, 0], [0], [0, 0, 0], [0, 0, 0, 0, 0, 0, 0, 0, 0, 0, 0, 0, 0, 0, 0, 0, 0, 0, 0, 0, 0, 0, 0, 0, 0, 0, 0, 0, 0, 0], [0, 0, 0], [0, 0, 0, 0, 0, 0, 0, 0, 0, 0, 0, 0, 0, 0, 0, 0, 0, 0, 0, 0, 0, 0, 0, 0, 0, 0, 0, 0, 0, 0, 0, 0, 0, 0, 0, 0, 0, 0, 0, 0, 0, 0, 0, 0, 0, 0, 0, 0, 0, 0, 0, 0, 0, 0, 0, 0, 0, 0, 0, 0, 0, 0, 0, 0, 0, 0, 0, 0, 0, 0, 0, 0, 0, 0], [0], [0]], [([0, 2], []), ([], []), ([1, 32], [(true, 0)]), ([32], []), ([], []), ([], []), ([], []), ([33], []), ([1, 3, 4, 34], [(true, 0), (false, 0)]), ([34], []), ([4, 33], []), ([1, 3, 35], [(true, 0), (false, 0)]), ([35], []), ([], []), ([39], []), ([36], []), ([], []), ([38], []), ([37], []), ([1, 3, 5, 6, 38], [(true, 0), (false, 0)]), ([6, 37], []), ([1, 3, 5, 39], [(true, 0), (false, 0)]), ([5, 36], []), ([], []), ([], []), ([41], []), ([40], []), ([1, 3, 7, 8, 41], [(true, 0), (false, 0)]), ([8, 40], []), ([], []), ([10, 11, 43], []), ([42], []), ([], []), ([], []), ([44], []), ([43], []), ([12], []), ([1, 3, 7, 9, 10, 11, 44], [(true, 0), (false, 0)]), ([3, 9, 42], [(false, 0)]), ([], []), ([14, 46], []), ([45], []), ([], []), ([15, 47, 48], []), ([46], []), ([], []), ([15, 47], []), ([16], []), ([1, 7, 13, 14, 48], [(true, 0)]), ([13, 45], []), ([], []), ([18, 50], []), ([49], []), ([], []), ([53], []), ([50], []), ([], []), ([], []), ([51], []), ([], []), ([52], []), ([19, 20, 51, 52], []), ([1, 7, 17, 18, 53], [(true, 0)]), ([17, 49], []), ([], []), ([22, 24, 58], [(false, 1)]), ([54], []), ([], []), ([], []), ([56], []), ([55], []), ([56], []), ([23, 55], []), ([1, 7, 21, 22, 57], [(true, 0), (false, 1)]), ([57], []), ([], []), ([61], []), ([58], []), ([], []), ([], []), ([60], []), ([59], []), ([60], []), ([25, 26, 59], []), ([1, 7, 21, 22, 24, 61], [(true, 0), (false, 1)]), ([7, 21, 54], []), ([], []), ([28, 63], []), ([62], []), ([], []), ([65, 67], []), ([63], []), ([], []), ([30], []), ([29, 64], [(true, 1)]), ([1, 27, 28, 65], [(true, 0)]), ([64], []), ([], []), ([66], []), ([29, 31, 66], [(true, 1)]), ([1, 27, 28, 67], [(true, 0)]), ([1, 27, 62], [(true, 0)])], []⟩
def ir_undertowref20_Checkl0 : C :=
 .seq (.seq (.reg [⟨.mv (.s 4), none⟩,
   ⟨.bin .lss (.r 0) (.c (.int .i64 3)), none⟩] [] [] [(33, 1, none)])
 (.cond (.s 33) (.skip)
  (.exit 0)))
 (.seq (.block 1 (.seq (.seq (.seq (.reg [⟨.mv (.s 4), none⟩,
    ⟨.off 1 (.s 1), none⟩,
    ⟨.iaA 3 1 (.r 1) (.r 0), none⟩,
    ⟨.load 0 false 1 (.r 2), none⟩,
    ⟨.len 1 (.r 3), none⟩,
    ⟨.bin .gtr (.r 4) (.c (.int .i64 512)), none⟩] [] [] [(34, 5, none)])
  (.drop [33] []))
  (.cond (.s 34) (.seq (.seq (.reg [⟨.mv (.c (.int .i64 2)), none⟩] [] [] [(2, 0, none)])
   (.drop [1, 3, 4, 34] [(true, 0), (false, 0)]))
   (.ret))
   (.skip)))
  (.seq (.reg [⟨.mv (.s 3), none⟩,
    ⟨.mv (.s 4), none⟩,
    ⟨.off 1 (.s 1), none⟩,
    ⟨.iaA 3 1 (.r 2) (.r 1), none⟩,
    ⟨.load 0 false 1 (.r 3), none⟩,
    ⟨.app 2 27 208 (.r 0) (.r 4), none⟩,
    ⟨.mv (.r 5), none⟩] [] [] [(3, 6, some 0)])
  (.drop [34] []))))
 (.reg [⟨.mv (.s 4), none⟩,
   ⟨.bin .add (.r 0) (.c (.int .i64 1)), none⟩,
   ⟨.mv (.r 1), none⟩] [] [] [(4, 2, none)]))
def ir_undertowref20_Checkl1 : C :=
 .seq (.seq (.reg [⟨.mv (.s 6), none⟩,
   ⟨.mv (.s 5), none⟩,
   ⟨.bin .lss (.r 0) (.r 1), none⟩] [] [] [(37, 2, none)])
 (.cond (.s 37) (.skip)
  (.exit 4)))
 (.seq (.block 5 (.seq (.seq (.reg [⟨.mv (.s 3), none⟩,
    ⟨.mv (.s 6), none⟩,
    ⟨.iaS 27 (.r 0) (.r 1), none⟩,
    ⟨.off 16 (.r 2), none⟩,
    ⟨.load 0 false 1 (.r 3), none⟩,
    ⟨.mv (.s 3), none⟩,
    ⟨.mv (.s 5), none⟩,
    ⟨.iaS 27 (.r 5) (.r 6), none⟩,
    ⟨.off 16 (.r 7), none⟩,
    ⟨.load 0 false 1 (.r 8), none⟩,
    ⟨.bin .eql (.r 4) (.r 9), none⟩] [] [(2, 7), (2, 9), (4, 7), (4, 9)] [(38, 10, none)])
  (.drop [37] []))
  (.cond (.s 38) (.seq (.seq (.reg [⟨.mv (.c (.int .i64 3)), none⟩] [] [] [(2, 0, none)])
   (.drop [1, 3, 5, 6, 38] [(true, 0), (false, 0)]))
   (.ret))
   (.skip))))
 (.seq (.reg [⟨.mv (.s 6), none⟩,
   ⟨.bin .add (.r 0) (.c (.int .i64 1)), none⟩,
   ⟨.mv (.r 1), none⟩] [] [] [(6, 2, none)])
 (.drop [38] [])))
def ir_undertowref20_Checkl2 : C :=
 .seq (.seq (.reg [⟨.mv (.s 5), none⟩,
   ⟨.mv (.s 3), none⟩,
   ⟨.len 1 (.r 1), none⟩,
   ⟨.bin .lss (.r 0) (.r 2), none⟩] [] [] [(36, 3, none)])
 (.cond (.s 36) (.skip)
  (.exit 2)))
 (.seq (.block 3 (.seq (.seq (.seq (.reg [⟨.mv (.c (.int .i64 0)), none⟩] [] [] [(6, 0, none)])
  (.drop [36] []))
  (.block 4 (.loop ir_undertowref20_Checkl1)))
  (.seq (.seq (.reg [⟨.mv (.s 3), none⟩,
    ⟨.mv (.s 5), none⟩,
    ⟨.iaS 27 (.r 0) (.r 1), none⟩,
    ⟨.off 16 (.r 2), none⟩,
    ⟨.load 0 false 1 (.r 3), none⟩,
    ⟨.bin .lss (.r 4) (.c (.int .i64 0)), none⟩] [] [] [(39, 5, none)])
  (.drop [6, 37] []))
  (.cond (.s 39) (.seq (.seq (.reg [⟨.mv (.c (.int .i64 3)), none⟩] [] [] [(2, 0, none)])
   (.drop [1, 3, 5, 39] [(true, 0), (false, 0)]))
   (.ret))
   (.skip)))))
 (.seq (.reg [⟨.mv (.s 5), none⟩,
   ⟨.bin .add (.r 0) (.c (.int .i64 1)), none⟩,
   ⟨.mv (.r 1), none⟩] [] [] [(5, 2, none)])
 (.drop [39] [])))
def ir_undertowref20_Checkl3 : C :=
 .seq (.seq (.reg [⟨.mv (.s 8), none⟩,
   ⟨.mv (.s 7), none⟩,
   ⟨.len 1 (.r 1), none⟩,
   ⟨.bin .lss (.r 0) (.r 2), none⟩] [] [] [(40, 3, none)])
 (.cond (.s 40) (.skip)
  (.exit 6)))
 (.seq (.block 7 (.seq (.seq (.reg [⟨.mv (.s 7), none⟩,
    ⟨.mv (.s 8), none⟩,
    ⟨.iaS 33 (.r 0) (.r 1), none⟩,
    ⟨.off 2 (.r 2), none⟩,
    ⟨.off 0 (.r 3), none⟩,
    ⟨.off 1 (.r 4), none⟩,
    ⟨.off 0 (.r 5), none⟩,
    ⟨.load 0 false 1 (.r 6), none⟩,
    ⟨.mv (.s 7), none⟩,
    ⟨.mv (.s 8), none⟩,
    ⟨.iaS 33 (.r 8) (.r 9), none⟩,
    ⟨.off 2 (.r 10), none⟩,
    ⟨.off 0 (.r 11), none⟩,
    ⟨.off 12 (.r 12), none⟩,
    ⟨.load 0 false 1 (.r 13), none⟩,
    ⟨.off 0 (.s 1), none⟩,
    ⟨.load 0 false 1 (.r 15), none⟩,
    ⟨.len 1 (.r 16), none⟩,
    ⟨.call .val n_undertowref08_Where [(.r 7), (.r 14), (.r 17)], none⟩,
    ⟨.bin .neq (.r 18) (.c (.int .i64 0)), none⟩] [] [(2, 10), (2, 14), (2, 16), (2, 17), (7, 10), (7, 14), (7, 16), (7, 17), (10, 16), (10, 17), (14, 16), (14, 17)] [(41, 19, none)])
  (.drop [40] []))
  (.cond (.s 41) (.seq (.seq (.reg [⟨.mv (.c (.int .i64 4)), none⟩] [] [] [(2, 0, none)])
   (.drop [1, 3, 7, 8, 41] [(true, 0), (false, 0)]))
   (.ret))
   (.skip))))
 (.seq (.reg [⟨.mv (.s 8), none⟩,
   ⟨.bin .add (.r 0) (.c (.int .i64 1)), none⟩,
   ⟨.mv (.r 1), none⟩] [] [] [(8, 2, none)])
 (.drop [41] [])))
def ir_undertowref20_Checkl4 : C :=
 .seq (.seq (.reg [⟨.mv (.s 11), none⟩,
   ⟨.bin .lss (.r 0) (.c (.int .i64 8)), none⟩] [] [] [(43, 1, none)])
 (.cond (.s 43) (.skip)
  (.exit 10)))
 (.seq (.block 11 (.seq (.seq (.reg [⟨.mv (.s 3), none⟩,
    ⟨.mv (.s 9), none⟩,
    ⟨.iaS 27 (.r 0) (.r 1), none⟩,
    ⟨.load 0 true 27 (.r 2), none⟩,
    ⟨.call .val n_undertowref20_IsEvent [(.r 3)], none⟩,
    ⟨.mv (.r 4), none⟩,
    ⟨.mv (.s 10), some (5, true)⟩,
    ⟨.bin .eql (.r 6) (.c (.int .i64 4)), some (5, true)⟩,
    ⟨.mv (.r 7), some (5, true)⟩,
    ⟨.mv (.s 10), some (8, false)⟩,
    ⟨.bin .eql (.r 9) (.c (.int .i64 10)), some (8, false)⟩,
    ⟨.pick (.r 8) (.c (.bool true)) (.r 10), some (5, true)⟩,
    ⟨.mv (.r 11), some (5, true)⟩,
    ⟨.mv (.s 10), some (12, false)⟩,
    ⟨.bin .eql (.r 13) (.c (.int .i64 12)), some (12, false)⟩,
    ⟨.pick (.r 12) (.c (.bool true)) (.r 14), some (5, true)⟩,
    ⟨.pick (.r 5) (.r 15) (.c (.bool false)), none⟩,
    ⟨.mv (.r 16), none⟩,
    ⟨.mv (.s 11), some (17, true)⟩,
    ⟨.mv (.s 3), some (17, true)⟩,
    ⟨.mv (.s 9), some (17, true)⟩,
    ⟨.iaS 27 (.r 19) (.r 20), some (17, true)⟩,
    ⟨.off 0 (.r 21), some (17, true)⟩,
    ⟨.off 1 (.r 22), some (17, true)⟩,
    ⟨.off 0 (.r 23), some (17, true)⟩,
    ⟨.load 0 false 1 (.r 24), some (17, true)⟩,
    ⟨.call .val n_undertowref05_Size [(.r 25)], some (17, true)⟩,
    ⟨.bin .lss (.r 18) (.r 26), some (17, true)⟩,
    ⟨.pick (.r 17) (.r 27) (.c (.bool false)), none⟩,
    ⟨.mv (.r 28), none⟩] [] [] [(12, 29, none)])
  (.drop [43] []))
  (.seq (.seq (.reg [⟨.mv (.s 12), none⟩,
    ⟨.un .not (.r 0), none⟩,
    ⟨.mv (.r 1), none⟩,
    ⟨.mv (.s 3), some (2, true)⟩,
    ⟨.mv (.s 9), some (2, true)⟩,
    ⟨.mv (.s 11), some (2, true)⟩,
    ⟨.iaS 27 (.r 3) (.r 4), some (2, true)⟩,
    ⟨.off 18 (.r 6), some (2, true)⟩,
    ⟨.iaA 8 1 (.r 7) (.r 5), some (2, true)⟩,
    ⟨.load 0 false 1 (.r 8), some (2, true)⟩,
    ⟨.bin .neq (.r 9) (.c (.int .i64 (-1))), some (2, true)⟩,
    ⟨.pick (.r 2) (.r 10) (.c (.bool false)), none⟩] [] [] [(44, 11, none)])
  (.drop [12] []))
  (.cond (.s 44) (.seq (.seq (.reg [⟨.mv (.c (.int .i64 5)), none⟩] [] [] [(2, 0, none)])
   (.drop [1, 3, 7, 9, 10, 11, 44] [(true, 0), (false, 0)]))
   (.ret))
   (.skip)))))
 (.seq (.reg [⟨.mv (.s 11), none⟩,
   ⟨.bin .add (.r 0) (.c (.int .i64 1)), none⟩,
   ⟨.mv (.r 1), none⟩] [] [] [(11, 2, none)])
 (.drop [44] [])))
def ir_undertowref20_Checkl5 : C :=
 .seq (.seq (.reg [⟨.mv (.s 9), none⟩,
   ⟨.mv (.s 3), none⟩,
   ⟨.len 1 (.r 1), none⟩,
   ⟨.bin .lss (.r 0) (.r 2), none⟩] [] [] [(42, 3, none)])
 (.cond (.s 42) (.skip)
  (.exit 8)))
 (.seq (.block 9 (.seq (.seq (.reg [⟨.mv (.s 3), none⟩,
    ⟨.mv (.s 9), none⟩,
    ⟨.iaS 27 (.r 0) (.r 1), none⟩,
    ⟨.off 0 (.r 2), none⟩,
    ⟨.off 1 (.r 3), none⟩,
    ⟨.off 0 (.r 4), none⟩,
    ⟨.load 0 false 1 (.r 5), none⟩,
    ⟨.call .val n_undertowref05_Sort [(.r 6)], none⟩,
    ⟨.mv (.r 7), none⟩] [] [] [(10, 8, none)])
  (.drop [42] []))
  (.seq (.reg [⟨.mv (.c (.int .i64 0)), none⟩] [] [] [(11, 0, none)])
  (.block 10 (.loop ir_undertowref20_Checkl4)))))
 (.seq (.reg [⟨.mv (.s 9), none⟩,
   ⟨.bin .add (.r 0) (.c (.int .i64 1)), none⟩,
   ⟨.mv (.r 1), none⟩] [] [] [(9, 2, none)])
 (.drop [10, 11, 43] [])))
def ir_undertowref20_Checkl6 : C :=
 .seq (.seq (.reg [⟨.mv (.s 14), none⟩,
   ⟨.mv (.s 7), none⟩,
   ⟨.mv (.s 13), none⟩,
   ⟨.iaS 33 (.r 1) (.r 2), none⟩,
   ⟨.off 32 (.r 3), none⟩,
   ⟨.load 0 false 1 (.r 4), none⟩,
   ⟨.bin .lss (.r 0) (.r 5), none⟩,
   ⟨.mv (.r 6), none⟩,
   ⟨.mv (.s 7), some (7, true)⟩,
   ⟨.mv (.s 13), some (7, true)⟩,
   ⟨.iaS 33 (.r 8) (.r 9), some (7, true)⟩,
   ⟨.off 29 (.r 10), some (7, true)⟩,
   ⟨.load 0 false 1 (.r 11), some (7, true)⟩,
   ⟨.pick (.r 7) (.r 12) (.c (.bool false)), none⟩] [] [] [(46, 13, none)])
 (.cond (.s 46) (.skip)
  (.exit 14)))
 (.seq (.block 15 (.seq (.seq (.reg [⟨.mv (.s 7), none⟩,
    ⟨.mv (.s 13), none⟩,
    ⟨.mv (.s 14), none⟩,
    ⟨.iaS 33 (.r 0) (.r 1), none⟩,
    ⟨.off 2 (.r 3), none⟩,
    ⟨.off 18 (.r 4), none⟩,
    ⟨.iaA 8 1 (.r 5) (.r 2), none⟩,
    ⟨.load 0 false 1 (.r 6), none⟩,
    ⟨.mv (.r 7), none⟩] [] [] [(15, 8, none)])
  (.drop [46] []))
  (.seq (.seq (.reg [⟨.mv (.s 15), none⟩,
    ⟨.bin .eql (.r 0) (.c (.int .i64 (-1))), none⟩] [] [] [(47, 1, none)])
  (.cond (.s 47) (.exit 15)
   (.skip)))
  (.seq (.seq (.reg [⟨.mv (.s 7), none⟩,
    ⟨.mv (.s 15), none⟩,
    ⟨.call .val n_undertowref20_Find [(.r 0), (.r 1)], none⟩,
    ⟨.mv (.r 2), none⟩] [] [] [(16, 3, none)])
  (.drop [15, 47] []))
  (.seq (.seq (.reg [⟨.mv (.s 16), none⟩,
    ⟨.bin .lss (.r 0) (.c (.int .i64 0)), none⟩,
    ⟨.mv (.r 1), none⟩,
    ⟨.mv (.s 7), some (2, false)⟩,
    ⟨.mv (.s 16), some (2, false)⟩,
    ⟨.iaS 33 (.r 3) (.r 4), some (2, false)⟩,
    ⟨.off 30 (.r 5), some (2, false)⟩,
    ⟨.load 0 false 1 (.r 6), some (2, false)⟩,
    ⟨.un .not (.r 7), some (2, false)⟩,
    ⟨.pick (.r 2) (.c (.bool true)) (.r 8), none⟩,
    ⟨.mv (.r 9), none⟩,
    ⟨.mv (.s 7), some (10, false)⟩,
    ⟨.mv (.s 16), some (10, false)⟩,
    ⟨.iaS 33 (.r 11) (.r 12), some (10, false)⟩,
    ⟨.load 0 true 33 (.r 13), some (10, false)⟩,
    ⟨.mv (.s 7), some (10, false)⟩,
    ⟨.mv (.s 13), some (10, false)⟩,
    ⟨.iaS 33 (.r 15) (.r 16), some (10, false)⟩,
    ⟨.off 31 (.r 17), some (10, false)⟩,
    ⟨.load 0 false 1 (.r 18), some (10, false)⟩,
    ⟨.mv (.s 14), some (10, false)⟩,
    ⟨.bin .add (.r 19) (.r 20), some (10, false)⟩,
    ⟨.call .val n_undertowref20_Has [(.r 14), (.r 21)], some (10, false)⟩,
    ⟨.un .not (.r 22), some (10, false)⟩,
    ⟨.pick (.r 10) (.c (.bool true)) (.r 23), none⟩] [] [(13, 17), (13, 19), (14, 17), (14, 19)] [(48, 24, none)])
  (.drop [16] []))
  (.cond (.s 48) (.seq (.seq (.reg [⟨.mv (.c (.int .i64 5)), none⟩] [] [] [(2, 0, none)])
   (.drop [1, 7, 13, 14, 48] [(true, 0)]))
   (.ret))
   (.skip)))))))
 (.seq (.reg [⟨.mv (.s 14), none⟩,
   ⟨.bin .add (.r 0) (.c (.int .i64 1)), none⟩,
   ⟨.mv (.r 1), none⟩] [] [] [(14, 2, none)])
 (.drop [15, 47, 48] [])))
def ir_undertowref20_Checkl7 : C :=
 .seq (.seq (.reg [⟨.mv (.s 13), none⟩,
   ⟨.mv (.s 7), none⟩,
   ⟨.len 1 (.r 1), none⟩,
   ⟨.bin .lss (.r 0) (.r 2), none⟩] [] [] [(45, 3, none)])
 (.cond (.s 45) (.skip)
  (.exit 12)))
 (.seq (.block 13 (.seq (.seq (.reg [⟨.mv (.c (.int .i64 0)), none⟩] [] [] [(14, 0, none)])
  (.drop [45] []))
  (.block 14 (.loop ir_undertowref20_Checkl6))))
 (.seq (.reg [⟨.mv (.s 13), none⟩,
   ⟨.bin .add (.r 0) (.c (.int .i64 1)), none⟩,
   ⟨.mv (.r 1), none⟩] [] [] [(13, 2, none)])
 (.drop [14, 46] [])))
def ir_undertowref20_Checkl8 : C :=
 .seq (.seq (.reg [⟨.mv (.s 18), none⟩,
   ⟨.bin .lss (.r 0) (.c (.int .i64 8)), none⟩,
   ⟨.mv (.r 1), none⟩,
   ⟨.mv (.s 7), some (2, true)⟩,
   ⟨.mv (.s 17), some (2, true)⟩,
   ⟨.iaS 33 (.r 3) (.r 4), some (2, true)⟩,
   ⟨.off 29 (.r 5), some (2, true)⟩,
   ⟨.load 0 false 1 (.r 6), some (2, true)⟩,
   ⟨.pick (.r 2) (.r 7) (.c (.bool false)), none⟩] [] [] [(50, 8, none)])
 (.cond (.s 50) (.skip)
  (.exit 18)))
 (.seq (.block 19 (.seq (.seq (.reg [⟨.mv (.s 7), none⟩,
    ⟨.mv (.s 17), none⟩,
    ⟨.iaS 33 (.r 0) (.r 1), none⟩,
    ⟨.off 2 (.r 2), none⟩,
    ⟨.off 0 (.r 3), none⟩,
    ⟨.off 13 (.r 4), none⟩,
    ⟨.load 0 false 1 (.r 5), none⟩,
    ⟨.mv (.s 18), none⟩,
    ⟨.bin .mul (.c (.int .i64 8)) (.r 7), none⟩,
    ⟨.i2i .u64 (.r 8), none⟩,
    ⟨.bin .shr (.r 6) (.r 9), none⟩,
    ⟨.i2i .u8 (.r 10), none⟩,
    ⟨.mv (.r 11), none⟩] [] [] [(19, 12, none)])
  (.drop [50] []))
  (.seq (.reg [⟨.mv (.c (.int .u8 0)), none⟩] [] [] [(20, 0, none)])
  (.seq (.seq (.reg [⟨.mv (.s 18), none⟩,
    ⟨.mv (.s 7), none⟩,
    ⟨.mv (.s 17), none⟩,
    ⟨.iaS 33 (.r 1) (.r 2), none⟩,
    ⟨.off 32 (.r 3), none⟩,
    ⟨.load 0 false 1 (.r 4), none⟩,
    ⟨.bin .lss (.r 0) (.r 5), none⟩] [] [] [(51, 6, none)])
  (.cond (.s 51) (.seq (.seq (.reg [⟨.off 0 (.s 1), none⟩,
     ⟨.load 0 false 1 (.r 0), none⟩,
     ⟨.mv (.s 7), none⟩,
     ⟨.mv (.s 17), none⟩,
     ⟨.iaS 33 (.r 2) (.r 3), none⟩,
     ⟨.off 31 (.r 4), none⟩,
     ⟨.load 0 false 1 (.r 5), none⟩,
     ⟨.mv (.s 18), none⟩,
     ⟨.bin .add (.r 6) (.r 7), none⟩,
     ⟨.iaS 1 (.r 1) (.r 8), none⟩,
     ⟨.load 0 false 1 (.r 9), none⟩,
     ⟨.mv (.r 10), none⟩] [] [(1, 4), (1, 6)] [(20, 11, none)])
   (.drop [51] []))
   (.seq (.reg [⟨.mv (.s 7), none⟩,
     ⟨.mv (.s 17), none⟩,
     ⟨.mv (.s 18), none⟩,
     ⟨.iaS 33 (.r 0) (.r 1), none⟩,
     ⟨.off 2 (.r 3), none⟩,
     ⟨.off 18 (.r 4), none⟩,
     ⟨.iaA 8 1 (.r 5) (.r 2), none⟩,
     ⟨.load 0 false 1 (.r 6), none⟩,
     ⟨.bin .neq (.r 7) (.c (.int .i64 (-1))), none⟩] [] [] [(52, 8, none)])
   (.cond (.s 52) (.seq (.reg [⟨.mv (.s 7), none⟩,
      ⟨.mv (.s 7), none⟩,
      ⟨.mv (.s 7), none⟩,
      ⟨.mv (.s 17), none⟩,
      ⟨.mv (.s 18), none⟩,
      ⟨.iaS 33 (.r 2) (.r 3), none⟩,
      ⟨.off 2 (.r 5), none⟩,
      ⟨.off 18 (.r 6), none⟩,
      ⟨.iaA 8 1 (.r 7) (.r 4), none⟩,
      ⟨.load 0 false 1 (.r 8), none⟩,
      ⟨.call .val n_undertowref20_Find [(.r 1), (.r 9)], none⟩,
      ⟨.iaS 33 (.r 0) (.r 10), none⟩,
      ⟨.load 0 true 33 (.r 11), none⟩,
      ⟨.mv (.s 7), none⟩,
      ⟨.mv (.s 17), none⟩,
      ⟨.iaS 33 (.r 13) (.r 14), none⟩,
      ⟨.off 31 (.r 15), none⟩,
      ⟨.load 0 false 1 (.r 16), none⟩,
      ⟨.mv (.s 18), none⟩,
      ⟨.bin .add (.r 17) (.r 18), none⟩,
      ⟨.call .val n_undertowref20_Byte [(.r 12), (.r 19)], none⟩,
      ⟨.mv (.r 20), none⟩,
      ⟨.ext (.r 21) 0, none⟩,
      ⟨.ext (.r 21) 1, none⟩,
      ⟨.mv (.r 22), none⟩] [] [(5, 15), (5, 17), (9, 15), (9, 17), (10, 15), (10, 17), (11, 15), (11, 17), (12, 15), (12, 17)] [(20, 24, none)])
    (.drop [52] []))
    (.skip))))
   (.skip)))
  (.seq (.seq (.reg [⟨.mv (.s 19), none⟩,
    ⟨.mv (.s 20), none⟩,
    ⟨.bin .neq (.r 0) (.r 1), none⟩] [] [] [(53, 2, none)])
  (.drop [19, 20, 51, 52] []))
  (.cond (.s 53) (.seq (.seq (.reg [⟨.mv (.c (.int .i64 6)), none⟩] [] [] [(2, 0, none)])
   (.drop [1, 7, 17, 18, 53] [(true, 0)]))
   (.ret))
   (.skip)))))))
 (.seq (.reg [⟨.mv (.s 18), none⟩,
   ⟨.bin .add (.r 0) (.c (.int .i64 1)), none⟩,
   ⟨.mv (.r 1), none⟩] [] [] [(18, 2, none)])
 (.drop [53] [])))
def ir_undertowref20_Checkl9 : C :=
 .seq (.seq (.reg [⟨.mv (.s 17), none⟩,
   ⟨.mv (.s 7), none⟩,
   ⟨.len 1 (.r 1), none⟩,
   ⟨.bin .lss (.r 0) (.r 2), none⟩] [] [] [(49, 3, none)])
 (.cond (.s 49) (.skip)
  (.exit 16)))
 (.seq (.block 17 (.seq (.seq (.reg [⟨.mv (.c (.int .i64 0)), none⟩] [] [] [(18, 0, none)])
  (.drop [49] []))
  (.block 18 (.loop ir_undertowref20_Checkl8))))
 (.seq (.reg [⟨.mv (.s 17), none⟩,
   ⟨.bin .add (.r 0) (.c (.int .i64 1)), none⟩,
   ⟨.mv (.r 1), none⟩] [] [] [(17, 2, none)])
 (.drop [18, 50] [])))
def ir_undertowref20_Checkl10 : C :=
 .seq (.seq (.reg [⟨.mv (.s 23), none⟩,
   ⟨.mv (.s 7), none⟩,
   ⟨.len 1 (.r 1), none⟩,
   ⟨.bin .lss (.r 0) (.r 2), none⟩] [] [] [(55, 3, none)])
 (.cond (.s 55) (.skip)
  (.exit 22)))
 (.seq (.block 23 (.seq (.seq (.reg [⟨.mv (.s 7), none⟩,
    ⟨.mv (.s 23), none⟩,
    ⟨.iaS 33 (.r 0) (.r 1), none⟩,
    ⟨.off 30 (.r 2), none⟩,
    ⟨.load 0 false 1 (.r 3), none⟩,
    ⟨.mv (.r 4), none⟩,
    ⟨.mv (.s 7), some (5, true)⟩,
    ⟨.mv (.s 23), some (5, true)⟩,
    ⟨.iaS 33 (.r 6) (.r 7), some (5, true)⟩,
    ⟨.load 0 true 33 (.r 8), some (5, true)⟩,
    ⟨.mv (.s 21), some (5, true)⟩,
    ⟨.call .val n_undertowref20_Has [(.r 9), (.r 10)], some (5, true)⟩,
    ⟨.pick (.r 5) (.r 11) (.c (.bool false)), none⟩] [] [] [(56, 12, none)])
  (.drop [55] []))
  (.cond (.s 56) (.seq (.reg [⟨.mv (.s 22), none⟩,
     ⟨.mv (.s 7), none⟩,
     ⟨.mv (.s 23), none⟩,
     ⟨.iaS 33 (.r 1) (.r 2), none⟩,
     ⟨.off 2 (.r 3), none⟩,
     ⟨.off 16 (.r 4), none⟩,
     ⟨.load 0 false 1 (.r 5), none⟩,
     ⟨.lit 1 1 [[.int .i64 0]] [(0, (.r 6))], none⟩,
     ⟨.app 2 1 8 (.r 0) (.r 7), none⟩,
     ⟨.mv (.r 8), none⟩] [] [] [(22, 9, some 2)])
   (.drop [56] []))
   (.skip))))
 (.seq (.reg [⟨.mv (.s 23), none⟩,
   ⟨.bin .add (.r 0) (.c (.int .i64 1)), none⟩,
   ⟨.mv (.r 1), none⟩] [] [] [(23, 2, none)])
 (.drop [56] [])))
def ir_undertowref20_Checkl11 : C :=
 .seq (.seq (.reg [⟨.mv (.s 26), none⟩,
   ⟨.mv (.s 22), none⟩,
   ⟨.len 1 (.r 1), none⟩,
   ⟨.bin .lss (.r 0) (.r 2), none⟩] [] [] [(59, 3, none)])
 (.cond (.s 59) (.skip)
  (.exit 26)))
 (.seq (.block 27 (.seq (.seq (.reg [⟨.off 4 (.s 1), none⟩,
    ⟨.load 0 false 1 (.r 0), none⟩,
    ⟨.mv (.s 21), none⟩,
    ⟨.iaS 1 (.r 1) (.r 2), none⟩,
    ⟨.load 0 false 1 (.r 3), none⟩,
    ⟨.mv (.s 26), none⟩,
    ⟨.iaS 1 (.r 4) (.r 5), none⟩,
    ⟨.load 0 false 1 (.r 6), none⟩,
    ⟨.mv (.s 22), none⟩,
    ⟨.mv (.s 24), none⟩,
    ⟨.iaS 1 (.r 8) (.r 9), none⟩,
    ⟨.load 0 false 1 (.r 10), none⟩,
    ⟨.bin .eql (.r 7) (.r 11), none⟩] [] [(1, 10), (1, 11), (3, 10), (3, 11), (4, 10), (4, 11), (6, 10), (6, 11), (7, 10), (7, 11)] [(60, 12, none)])
  (.drop [59] []))
  (.cond (.s 60) (.seq (.reg [⟨.mv (.s 25), none⟩,
     ⟨.bin .add (.r 0) (.c (.int .i64 1)), none⟩,
     ⟨.mv (.r 1), none⟩] [] [] [(25, 2, none)])
   (.drop [60] []))
   (.skip))))
 (.seq (.reg [⟨.mv (.s 26), none⟩,
   ⟨.bin .add (.r 0) (.c (.int .i64 1)), none⟩,
   ⟨.mv (.r 1), none⟩] [] [] [(26, 2, none)])
 (.drop [60] [])))
def ir_undertowref20_Checkl12 : C :=
 .seq (.seq (.reg [⟨.mv (.s 24), none⟩,
   ⟨.mv (.s 22), none⟩,
   ⟨.len 1 (.r 1), none⟩,
   ⟨.bin .lss (.r 0) (.r 2), none⟩] [] [] [(58, 3, none)])
 (.cond (.s 58) (.skip)
  (.exit 24)))
 (.seq (.block 25 (.seq (.seq (.reg [⟨.mv (.c (.int .i64 0)), none⟩] [] [] [(25, 0, none)])
  (.drop [58] []))
  (.seq (.seq (.reg [⟨.mv (.c (.int .i64 0)), none⟩] [] [] [(26, 0, none)])
  (.block 26 (.loop ir_undertowref20_Checkl11)))
  (.seq (.seq (.reg [⟨.mv (.s 25), none⟩,
    ⟨.bin .neq (.r 0) (.c (.int .i64 1)), none⟩] [] [] [(61, 1, none)])
  (.drop [25, 26, 59] []))
  (.cond (.s 61) (.seq (.seq (.reg [⟨.mv (.c (.int .i64 7)), none⟩] [] [] [(2, 0, none)])
   (.drop [1, 7, 21, 22, 24, 61] [(true, 0), (false, 1)]))
   (.ret))
   (.skip))))))
 (.seq (.reg [⟨.mv (.s 24), none⟩,
   ⟨.bin .add (.r 0) (.c (.int .i64 1)), none⟩,
   ⟨.mv (.r 1), none⟩] [] [] [(24, 2, none)])
 (.drop [61] [])))
def ir_undertowref20_Checkl13 : C :=
 .seq (.seq (.reg [⟨.mv (.s 21), none⟩,
   ⟨.off 4 (.s 1), none⟩,
   ⟨.load 0 false 1 (.r 1), none⟩,
   ⟨.len 1 (.r 2), none⟩,
   ⟨.bin .lss (.r 0) (.r 3), none⟩] [] [] [(54, 4, none)])
 (.cond (.s 54) (.skip)
  (.exit 20)))
 (.seq (.block 21 (.seq (.seq (.reg [⟨.onil 1, none⟩] [(false, 1)] [] [(22, 0, some 2)])
  (.drop [54] []))
  (.seq (.seq (.reg [⟨.mv (.c (.int .i64 0)), none⟩] [] [] [(23, 0, none)])
  (.block 22 (.loop ir_undertowref20_Checkl10)))
  (.seq (.seq (.seq (.reg [⟨.mv (.s 22), none⟩,
    ⟨.len 1 (.r 0), none⟩,
    ⟨.off 4 (.s 1), none⟩,
    ⟨.load 0 false 1 (.r 2), none⟩,
    ⟨.mv (.s 21), none⟩,
    ⟨.iaS 1 (.r 3) (.r 4), none⟩,
    ⟨.load 0 false 1 (.r 5), none⟩,
    ⟨.len 1 (.r 6), none⟩,
    ⟨.bin .neq (.r 1) (.r 7), none⟩] [] [] [(57, 8, none)])
  (.drop [23, 55] []))
  (.cond (.s 57) (.seq (.seq (.reg [⟨.mv (.c (.int .i64 7)), none⟩] [] [] [(2, 0, none)])
   (.drop [1, 7, 21, 22, 57] [(true, 0), (false, 1)]))
   (.ret))
   (.skip)))
  (.seq (.seq (.reg [⟨.mv (.c (.int .i64 0)), none⟩] [] [] [(24, 0, none)])
  (.drop [57] []))
  (.block 24 (.loop ir_undertowref20_Checkl12)))))))
 (.seq (.reg [⟨.mv (.s 21), none⟩,
   ⟨.bin .add (.r 0) (.c (.int .i64 1)), none⟩,
   ⟨.mv (.r 1), none⟩] [] [] [(21, 2, none)])
 (.drop [22, 24, 58] [(false, 1)])))
def ir_undertowref20_Checkl14 : C :=
 .seq (.seq (.reg [⟨.mv (.s 31), none⟩,
   ⟨.bin .geq (.r 0) (.c (.int .i64 0)), none⟩,
   ⟨.mv (.r 1), none⟩,
   ⟨.mv (.s 27), some (2, true)⟩,
   ⟨.off 1 (.s 1), some (2, true)⟩,
   ⟨.iaA 3 1 (.r 4) (.r 3), some (2, true)⟩,
   ⟨.load 0 false 1 (.r 5), some (2, true)⟩,
   ⟨.mv (.s 31), some (2, true)⟩,
   ⟨.iaS 27 (.r 6) (.r 7), some (2, true)⟩,
   ⟨.off 0 (.r 8), some (2, true)⟩,
   ⟨.off 1 (.r 9), some (2, true)⟩,
   ⟨.off 0 (.r 10), some (2, true)⟩,
   ⟨.load 0 false 1 (.r 11), some (2, true)⟩,
   ⟨.call .val n_undertowref05_Sort [(.r 12)], some (2, true)⟩,
   ⟨.bin .neq (.r 13) (.c (.int .i64 10)), some (2, true)⟩,
   ⟨.pick (.r 2) (.r 14) (.c (.bool false)), none⟩,
   ⟨.mv (.r 15), none⟩,
   ⟨.mv (.s 27), some (16, true)⟩,
   ⟨.off 1 (.s 1), some (16, true)⟩,
   ⟨.iaA 3 1 (.r 18) (.r 17), some (16, true)⟩,
   ⟨.load 0 false 1 (.r 19), some (16, true)⟩,
   ⟨.mv (.s 31), some (16, true)⟩,
   ⟨.iaS 27 (.r 20) (.r 21), some (16, true)⟩,
   ⟨.off 0 (.r 22), some (16, true)⟩,
   ⟨.off 1 (.r 23), some (16, true)⟩,
   ⟨.off 0 (.r 24), some (16, true)⟩,
   ⟨.load 0 false 1 (.r 25), some (16, true)⟩,
   ⟨.call .val n_undertowref05_Sort [(.r 26)], some (16, true)⟩,
   ⟨.bin .neq (.r 27) (.c (.int .i64 11)), some (16, true)⟩,
   ⟨.pick (.r 16) (.r 28) (.c (.bool false)), none⟩] [] [] [(66, 29, none)])
 (.cond (.s 66) (.skip)
  (.exit 32)))
 (.block 33 (.seq (.reg [⟨.mv (.s 31), none⟩,
    ⟨.bin .sub (.r 0) (.c (.int .i64 1)), none⟩,
    ⟨.mv (.r 1), none⟩] [] [] [(31, 2, none)])
  (.drop [66] [])))
def ir_undertowref20_Checkl15 : C :=
 .seq (.seq (.reg [⟨.mv (.s 28), none⟩,
   ⟨.mv (.s 27), none⟩,
   ⟨.off 1 (.s 1), none⟩,
   ⟨.iaA 3 1 (.r 2) (.r 1), none⟩,
   ⟨.load 0 false 1 (.r 3), none⟩,
   ⟨.len 1 (.r 4), none⟩,
   ⟨.bin .lss (.r 0) (.r 5), none⟩] [] [] [(63, 6, none)])
 (.cond (.s 63) (.skip)
  (.exit 30)))
 (.seq (.block 31 (.seq (.seq (.reg [⟨.mv (.s 27), none⟩,
    ⟨.off 1 (.s 1), none⟩,
    ⟨.iaA 3 1 (.r 1) (.r 0), none⟩,
    ⟨.load 0 false 1 (.r 2), none⟩,
    ⟨.mv (.s 28), none⟩,
    ⟨.iaS 27 (.r 3) (.r 4), none⟩,
    ⟨.load 0 true 27 (.r 5), none⟩,
    ⟨.lalloc 1 [.int .u64 0, .int .i64 0, .int .i64 0, .int .i64 0, .int .i64 0, .int .i64 0, .bool false, .bool false, .int .i64 0, .int .i64 0, .int .i64 0, .int .u64 0, .int .u64 0, .int .u64 0, .int .u64 0, .bool false, .int .i64 0, .flt 0, .int .i64 0, .int .i64 0, .int .i64 0, .int .i64 0, .int .i64 0, .int .i64 0, .int .i64 0, .int .i64 0, .int .i64 0], none⟩,
    ⟨.store 0 27 (.r 7) (.r 6), none⟩] [(true, 1)] [] [(29, 7, some 3)])
  (.drop [63] []))
  (.seq (.reg [⟨.off 0 (.s 29), none⟩,
    ⟨.off 1 (.r 0), none⟩,
    ⟨.off 0 (.r 1), none⟩,
    ⟨.load 0 false 1 (.r 2), none⟩,
    ⟨.call .val n_undertowref05_Sort [(.r 3)], none⟩,
    ⟨.mv (.r 4), none⟩] [] [] [(30, 5, none)])
  (.seq (.seq (.seq (.reg [⟨.mv (.s 30), none⟩,
    ⟨.bin .neq (.r 0) (.c (.int .i64 11)), none⟩,
    ⟨.mv (.r 1), none⟩,
    ⟨.load 0 true 27 (.s 29), some (2, false)⟩,
    ⟨.call .val n_undertowref20_IsEvent [(.r 3)], some (2, false)⟩,
    ⟨.un .not (.r 4), some (2, false)⟩,
    ⟨.pick (.r 2) (.c (.bool true)) (.r 5), none⟩] [] [] [(64, 6, none)])
  (.drop [30] []))
  (.cond (.s 64) (.seq (.seq (.seq (.reg [⟨.off 26 (.s 29), none⟩,
     ⟨.load 0 false 1 (.r 0), none⟩,
     ⟨.bin .neq (.r 1) (.c (.int .i64 (-1))), none⟩] [] [] [(65, 2, none)])
   (.drop [29, 64] [(true, 1)]))
   (.cond (.s 65) (.seq (.seq (.reg [⟨.mv (.c (.int .i64 8)), none⟩] [] [] [(2, 0, none)])
    (.drop [1, 27, 28, 65] [(true, 0)]))
    (.ret))
    (.skip)))
   (.exit 31))
   (.skip)))
  (.seq (.seq (.reg [⟨.mv (.s 28), none⟩,
    ⟨.bin .sub (.r 0) (.c (.int .i64 1)), none⟩,
    ⟨.mv (.r 1), none⟩] [] [] [(31, 2, none)])
  (.drop [64] []))
  (.seq (.block 32 (.loop ir_undertowref20_Checkl14))
  (.seq (.seq (.reg [⟨.mv (.s 31), none⟩,
    ⟨.bin .lss (.r 0) (.c (.int .i64 0)), none⟩,
    ⟨.mv (.r 1), none⟩,
    ⟨.mv (.s 27), some (2, false)⟩,
    ⟨.off 1 (.s 1), some (2, false)⟩,
    ⟨.iaA 3 1 (.r 4) (.r 3), some (2, false)⟩,
    ⟨.load 0 false 1 (.r 5), some (2, false)⟩,
    ⟨.mv (.s 31), some (2, false)⟩,
    ⟨.iaS 27 (.r 6) (.r 7), some (2, false)⟩,
    ⟨.off 0 (.r 8), some (2, false)⟩,
    ⟨.off 1 (.r 9), some (2, false)⟩,
    ⟨.off 0 (.r 10), some (2, false)⟩,
    ⟨.load 0 false 1 (.r 11), some (2, false)⟩,
    ⟨.call .val n_undertowref05_Sort [(.r 12)], some (2, false)⟩,
    ⟨.bin .neq (.r 13) (.c (.int .i64 10)), some (2, false)⟩,
    ⟨.pick (.r 2) (.c (.bool true)) (.r 14), none⟩,
    ⟨.mv (.r 15), none⟩,
    ⟨.mv (.s 27), some (16, false)⟩,
    ⟨.off 1 (.s 1), some (16, false)⟩,
    ⟨.iaA 3 1 (.r 18) (.r 17), some (16, false)⟩,
    ⟨.load 0 false 1 (.r 19), some (16, false)⟩,
    ⟨.mv (.s 31), some (16, false)⟩,
    ⟨.iaS 27 (.r 20) (.r 21), some (16, false)⟩,
    ⟨.load 0 true 27 (.r 22), some (16, false)⟩,
    ⟨.call .val n_undertowref20_IsEvent [(.r 23)], some (16, false)⟩,
    ⟨.un .not (.r 24), some (16, false)⟩,
    ⟨.pick (.r 16) (.c (.bool true)) (.r 25), none⟩,
    ⟨.mv (.r 26), none⟩,
    ⟨.mv (.s 27), some (27, false)⟩,
    ⟨.off 1 (.s 1), some (27, false)⟩,
    ⟨.iaA 3 1 (.r 29) (.r 28), some (27, false)⟩,
    ⟨.load 0 false 1 (.r 30), some (27, false)⟩,
    ⟨.mv (.s 31), some (27, false)⟩,
    ⟨.iaS 27 (.r 31) (.r 32), some (27, false)⟩,
    ⟨.off 16 (.r 33), some (27, false)⟩,
    ⟨.load 0 false 1 (.r 34), some (27, false)⟩,
    ⟨.off 26 (.s 29), some (27, false)⟩,
    ⟨.load 0 false 1 (.r 36), some (27, false)⟩,
    ⟨.bin .neq (.r 35) (.r 37), some (27, false)⟩,
    ⟨.pick (.r 27) (.c (.bool true)) (.r 38), none⟩,
    ⟨.mv (.r 39), none⟩,
    ⟨.mv (.s 27), some (40, false)⟩,
    ⟨.off 1 (.s 1), some (40, false)⟩,
    ⟨.iaA 3 1 (.r 42) (.r 41), some (40, false)⟩,
    ⟨.load 0 false 1 (.r 43), some (40, false)⟩,
    ⟨.mv (.s 31), some (40, false)⟩,
    ⟨.iaS 27 (.r 44) (.r 45), some (40, false)⟩,
    ⟨.off 0 (.r 46), some (40, false)⟩,
    ⟨.off 12 (.r 47), some (40, false)⟩,
    ⟨.load 0 false 1 (.r 48), some (40, false)⟩,
    ⟨.off 0 (.s 29), some (40, false)⟩,
    ⟨.off 12 (.r 50), some (40, false)⟩,
    ⟨.load 0 false 1 (.r 51), some (40, false)⟩,
    ⟨.bin .neq (.r 49) (.r 52), some (40, false)⟩,
    ⟨.pick (.r 40) (.c (.bool true)) (.r 53), none⟩,
    ⟨.mv (.r 54), none⟩,
    ⟨.mv (.s 27), some (55, false)⟩,
    ⟨.off 1 (.s 1), some (55, false)⟩,
    ⟨.iaA 3 1 (.r 57) (.r 56), some (55, false)⟩,
    ⟨.load 0 false 1 (.r 58), some (55, false)⟩,
    ⟨.mv (.s 31), some (55, false)⟩,
    ⟨.iaS 27 (.r 59) (.r 60), some (55, false)⟩,
    ⟨.off 0 (.r 61), some (55, false)⟩,
    ⟨.off 1 (.r 62), some (55, false)⟩,
    ⟨.off 0 (.r 63), some (55, false)⟩,
    ⟨.load 0 false 1 (.r 64), some (55, false)⟩,
    ⟨.call .val n_undertowref05_Size [(.r 65)], some (55, false)⟩,
    ⟨.off 0 (.s 29), some (55, false)⟩,
    ⟨.off 1 (.r 67), some (55, false)⟩,
    ⟨.off 0 (.r 68), some (55, false)⟩,
    ⟨.load 0 false 1 (.r 69), some (55, false)⟩,
    ⟨.call .val n_undertowref05_Size [(.r 70)], some (55, false)⟩,
    ⟨.bin .neq (.r 66) (.r 71), some (55, false)⟩,
    ⟨.pick (.r 55) (.c (.bool true)) (.r 72), none⟩] [] [(31, 37), (33, 37), (35, 37), (44, 52), (46, 52), (49, 52), (59, 70), (61, 70), (65, 70), (66, 70)] [(67, 73, none)])
  (.drop [29, 31, 66] [(true, 1)]))
  (.cond (.s 67) (.seq (.seq (.reg [⟨.mv (.c (.int .i64 8)), none⟩] [] [] [(2, 0, none)])
   (.drop [1, 27, 28, 67] [(true, 0)]))
   (.ret))
   (.skip)))))))))
 (.seq (.reg [⟨.mv (.s 28), none⟩,
   ⟨.bin .add (.r 0) (.c (.int .i64 1)), none⟩,
   ⟨.mv (.r 1), none⟩] [] [] [(28, 2, none)])
 (.drop [65, 67] [])))
def ir_undertowref20_Checkl16 : C :=
 .seq (.seq (.reg [⟨.mv (.s 27), none⟩,
   ⟨.bin .lss (.r 0) (.c (.int .i64 3)), none⟩] [] [] [(62, 1, none)])
 (.cond (.s 62) (.skip)
  (.exit 28)))
 (.seq (.block 29 (.seq (.seq (.reg [⟨.mv (.c (.int .i64 0)), none⟩] [] [] [(28, 0, none)])
  (.drop [62] []))
  (.block 30 (.loop ir_undertowref20_Checkl15))))
 (.seq (.reg [⟨.mv (.s 27), none⟩,
   ⟨.bin .add (.r 0) (.c (.int .i64 1)), none⟩,
   ⟨.mv (.r 1), none⟩] [] [] [(27, 2, none)])
 (.drop [28, 63] [])))
def ir_undertowref20_Check : Vm.Fn := ⟨[0, 1, 2, 3, 4, 5, 6, 7, 8, 9, 10, 11, 12, 13, 14, 15, 16, 17, 18, 19, 20, 21, 22, 23, 24, 25, 26, 27, 28, 29, 30, 31, 44, 46, 54, 63, 67, 72, 85, 91, 97, 119, 123, 135, 178, 182, 198, 210, 238, 242, 253, 274, 294, 321, 326, 332, 347, 365, 369, 375, 390, 394, 396, 405, 426, 429, 461, 537], 2, 2, [.slot 2],
 .seq (.seq (.reg [⟨.lbox 0 5 (.s 0), none⟩,
   ⟨.mv (.c (.int .i64 0)), none⟩] [(true, 0)] [] [(1, 0, some 1), (2, 1, none)])
 (.drop [0, 2] []))
 (.seq (.seq (.reg [⟨.off 0 (.s 1), none⟩,
   ⟨.load 0 false 1 (.r 0), none⟩,
   ⟨.len 1 (.r 1), none⟩,
   ⟨.bin .gtr (.r 2) (.c (.int .i64 1024)), none⟩,
   ⟨.mv (.r 3), none⟩,
   ⟨.off 4 (.s 1), some (4, false)⟩,
   ⟨.load 0 false 1 (.r 5), some (4, false)⟩,
   ⟨.len 1 (.r 6), some (4, false)⟩,
   ⟨.off 0 (.s 1), some (4, false)⟩,
   ⟨.load 0 false 1 (.r 8), some (4, false)⟩,
   ⟨.len 1 (.r 9), some (4, false)⟩,
   ⟨.bin .neq (.r 7) (.r 10), some (4, false)⟩,
   ⟨.pick (.r 4) (.c (.bool true)) (.r 11), none⟩] [] [] [(32, 12, none)])
 (.cond (.s 32) (.seq (.seq (.reg [⟨.mv (.c (.int .i64 1)), none⟩] [] [] [(2, 0, none)])
  (.drop [1, 32] [(true, 0)]))
  (.ret))
  (.skip)))
 (.seq (.seq (.reg [⟨.onil 0, none⟩] [(false, 0)] [] [(3, 0, some 0)])
 (.drop [32] []))
 (.seq (.seq (.reg [⟨.mv (.c (.int .i64 0)), none⟩] [] [] [(4, 0, none)])
 (.block 0 (.loop ir_undertowref20_Checkl0)))
 (.seq (.seq (.seq (.reg [⟨.mv (.s 3), none⟩,
   ⟨.len 1 (.r 0), none⟩,
   ⟨.bin .gtr (.r 1) (.c (.int .i64 512)), none⟩] [] [] [(35, 2, none)])
 (.drop [4, 33] []))
 (.cond (.s 35) (.seq (.seq (.reg [⟨.mv (.c (.int .i64 2)), none⟩] [] [] [(2, 0, none)])
  (.drop [1, 3, 35] [(true, 0), (false, 0)]))
  (.ret))
  (.skip)))
 (.seq (.seq (.seq (.reg [⟨.mv (.c (.int .i64 0)), none⟩] [] [] [(5, 0, none)])
 (.drop [35] []))
 (.block 2 (.loop ir_undertowref20_Checkl2)))
 (.seq (.seq (.reg [⟨.load 0 true 5 (.s 1), none⟩,
   ⟨.call .val n_undertowref20_Events [(.r 0)], none⟩,
   ⟨.mv (.r 1), none⟩] [] [] [(7, 2, none)])
 (.drop [5, 36] []))
 (.seq (.seq (.reg [⟨.mv (.c (.int .i64 0)), none⟩] [] [] [(8, 0, none)])
 (.block 6 (.loop ir_undertowref20_Checkl3)))
 (.seq (.seq (.seq (.reg [⟨.mv (.c (.int .i64 0)), none⟩] [] [] [(9, 0, none)])
 (.drop [8, 40] []))
 (.block 8 (.loop ir_undertowref20_Checkl5)))
 (.seq (.seq (.seq (.reg [⟨.mv (.c (.int .i64 0)), none⟩] [] [] [(13, 0, none)])
 (.drop [3, 9, 42] [(false, 0)]))
 (.block 12 (.loop ir_undertowref20_Checkl7)))
 (.seq (.seq (.seq (.reg [⟨.mv (.c (.int .i64 0)), none⟩] [] [] [(17, 0, none)])
 (.drop [13, 45] []))
 (.block 16 (.loop ir_undertowref20_Checkl9)))
 (.seq (.seq (.seq (.reg [⟨.mv (.c (.int .i64 0)), none⟩] [] [] [(21, 0, none)])
 (.drop [17, 49] []))
 (.block 20 (.loop ir_undertowref20_Checkl13)))
 (.seq (.seq (.seq (.reg [⟨.mv (.c (.int .i64 0)), none⟩] [] [] [(27, 0, none)])
 (.drop [7, 21, 54] []))
 (.block 28 (.loop ir_undertowref20_Checkl16)))
 (.seq (.seq (.reg [⟨.mv (.c (.int .i64 0)), none⟩] [] [] [(2, 0, none)])
 (.drop [1, 27, 62] [(true, 0)]))
 (.ret))))))))))))))⟩
/-- 16: undertow/cand.Byte -/
def h16 : Vm.Hint := ⟨[0, 1, 2, 4, 5, 14], [2], [], [[1, 0, 0], [0, 0, 0, 0, 0, 0, 0, 0, 0], [0, 0], [0, 0, 0, 0, 0, 0, 0, 0, 0, 0, 0, 0, 0]], [([0, 3, 4], []), ([], []), ([1, 2, 5], [(true, 0)]), ([1, 2, 5], [(true, 0)])], []⟩
def ir_cand_Byte : Vm.Fn := ⟨[0, 1, 2, 4, 5, 14], 1, 0, [.slot 3, .slot 4],
 .seq (.seq (.reg [⟨.lbox 0 33 (.s 0), none⟩,
   ⟨.mv (.c (.int .u8 0)), none⟩,
   ⟨.mv (.c (.bool false)), none⟩] [(true, 0)] [] [(2, 0, some 1), (3, 1, none), (4, 2, none)])
 (.drop [0, 3, 4] []))
 (.seq (.seq (.reg [⟨.off 30 (.s 2), none⟩,
   ⟨.load 0 false 1 (.r 0), none⟩,
   ⟨.un .not (.r 1), none⟩,
   ⟨.mv (.r 2), none⟩,
   ⟨.load 0 true 33 (.s 2), some (3, false)⟩,
   ⟨.mv (.s 1), some (3, false)⟩,
   ⟨.call .val n_cand_has [(.r 4), (.r 5)], some (3, false)⟩,
   ⟨.un .not (.r 6), some (3, false)⟩,
   ⟨.pick (.r 3) (.c (.bool true)) (.r 7), none⟩] [] [] [(5, 8, none)])
 (.cond (.s 5) (.seq (.seq (.reg [⟨.mv (.c (.int .u8 0)), none⟩,
    ⟨.mv (.c (.bool false)), none⟩] [] [] [(3, 0, none), (4, 1, none)])
  (.drop [1, 2, 5] [(true, 0)]))
  (.ret))
  (.skip)))
 (.seq (.seq (.reg [⟨.off 2 (.s 2), none⟩,
   ⟨.off 0 (.r 0), none⟩,
   ⟨.off 14 (.r 1), none⟩,
   ⟨.load 0 false 1 (.r 2), none⟩,
   ⟨.mv (.s 1), none⟩,
   ⟨.off 31 (.s 2), none⟩,
   ⟨.load 0 false 1 (.r 5), none⟩,
   ⟨.bin .sub (.r 4) (.r 6), none⟩,
   ⟨.bin .mul (.c (.int .i64 8)) (.r 7), none⟩,
   ⟨.bin .shr (.r 3) (.r 8), none⟩,
   ⟨.i2i .u8 (.r 9), none⟩,
   ⟨.mv (.r 10), none⟩,
   ⟨.mv (.c (.bool true)), none⟩] [] [] [(3, 11, none), (4, 12, none)])
 (.drop [1, 2, 5] [(true, 0)]))
 (.ret)))⟩
/-- 17: undertow/cand.isEvent -/
def h17 : Vm.Hint := ⟨[0, 1, 2], [1], [], [[1, 0], [0, 0, 0, 0, 0, 0, 0, 0, 0, 0, 0, 0, 0, 0, 0, 0, 0, 0, 0, 0, 0, 0, 0, 0, 0, 0]], [([0, 2], []), ([1], [(true, 0)])], []⟩
def ir_cand_isEvent : Vm.Fn := ⟨[0, 1, 2], 1, 0, [.slot 2],
 .seq (.seq (.reg [⟨.lbox 0 27 (.s 0), none⟩,
   ⟨.mv (.c (.bool false)), none⟩] [(true, 0)] [] [(1, 0, some 1), (2, 1, none)])
 (.drop [0, 2] []))
 (.seq (.seq (.reg [⟨.off 0 (.s 1), none⟩,
   ⟨.off 10 (.r 0), none⟩,
   ⟨.load 0 false 1 (.r 1), none⟩,
   ⟨.bin .eql (.r 2) (.c (.int .i64 0)), none⟩,
   ⟨.mv (.r 3), none⟩,
   ⟨.off 0 (.s 1), some (4, true)⟩,
   ⟨.off 1 (.r 5), some (4, true)⟩,
   ⟨.off 0 (.r 6), some (4, true)⟩,
   ⟨.load 0 false 1 (.r 7), some (4, true)⟩,
   ⟨.call .val n_ops_Memory [(.r 8)], some (4, true)⟩,
   ⟨.pick (.r 4) (.r 9) (.c (.bool false)), none⟩,
   ⟨.mv (.r 10), none⟩,
   ⟨.off 0 (.s 1), some (11, true)⟩,
   ⟨.off 1 (.r 12), some (11, true)⟩,
   ⟨.off 0 (.r 13), some (11, true)⟩,
   ⟨.load 0 false 1 (.r 14), some (11, true)⟩,
   ⟨.call .val n_ops_Sort [(.r 15)], some (11, true)⟩,
   ⟨.bin .neq (.r 16) (.c (.int .i64 11)), some (11, true)⟩,
   ⟨.mv (.r 17), some (11, true)⟩,
   ⟨.off 0 (.s 1), some (18, false)⟩,
   ⟨.off 15 (.r 19), some (18, false)⟩,
   ⟨.load 0 false 1 (.r 20), some (18, false)⟩,
   ⟨.un .not (.r 21), some (18, false)⟩,
   ⟨.pick (.r 18) (.c (.bool true)) (.r 22), some (11, true)⟩,
   ⟨.pick (.r 11) (.r 23) (.c (.bool false)), none⟩,
   ⟨.mv (.r 24), none⟩] [] [] [(2, 25, none)])
 (.drop [1] [(true, 0)]))
 (.ret))⟩
/-- 18: undertow/ops.Loads -/
def h18 : Vm.Hint := ⟨[0, 2, 4, 5], [], [], [[0], [0, 0], [0, 0], [0, 0], [0, 0], [0], [0]], [([1], []), ([0], []), ([], []), ([], []), ([2], []), ([2, 3], []), ([2, 3], [])], []⟩
def ir_ops_Loads : Vm.Fn := ⟨[0, 2, 4, 5], 0, 0, [.slot 1],
 .seq (.seq (.reg [⟨.mv (.c (.bool false)), none⟩] [] [] [(1, 0, none)])
 (.drop [1] []))
 (.seq (.seq (.seq (.reg [⟨.mv (.s 0), none⟩,
   ⟨.call .val n_ops_Sort [(.r 0)], none⟩] [] [] [(2, 1, none)])
 (.drop [0] []))
 (.block 0 (.seq (.seq (.reg [⟨.bin .eql (.s 2) (.c (.int .i64 4)), none⟩,
    ⟨.mv (.r 0), none⟩] [] [] [(3, 1, none)])
  (.cond (.s 3) (.skip)
   (.seq (.reg [⟨.bin .eql (.s 2) (.c (.int .i64 10)), none⟩,
     ⟨.mv (.r 0), none⟩] [] [] [(3, 1, none)])
   (.cond (.s 3) (.skip)
    (.seq (.reg [⟨.bin .eql (.s 2) (.c (.int .i64 12)), none⟩,
      ⟨.mv (.r 0), none⟩] [] [] [(3, 1, none)])
    (.drop [2] []))))))
  (.cond (.s 3) (.seq (.seq (.reg [⟨.mv (.c (.bool true)), none⟩] [] [] [(1, 0, none)])
   (.drop [2, 3] []))
   (.ret))
   (.skip)))))
 (.seq (.seq (.reg [⟨.mv (.c (.bool false)), none⟩] [] [] [(1, 0, none)])
 (.drop [2, 3] []))
 (.ret)))⟩
/-- 19: undertow/ops.Stores -/
def h19 : Vm.Hint := ⟨[0, 2, 4, 5], [], [], [[0], [0, 0], [0, 0], [0, 0], [0, 0], [0], [0]], [([1], []), ([0], []), ([], []), ([], []), ([2], []), ([2, 3], []), ([2, 3], [])], []⟩
def ir_ops_Stores : Vm.Fn := ⟨[0, 2, 4, 5], 0, 0, [.slot 1],
 .seq (.seq (.reg [⟨.mv (.c (.bool false)), none⟩] [] [] [(1, 0, none)])
 (.drop [1] []))
 (.seq (.seq (.seq (.reg [⟨.mv (.s 0), none⟩,
   ⟨.call .val n_ops_Sort [(.r 0)], none⟩] [] [] [(2, 1, none)])
 (.drop [0] []))
 (.block 0 (.seq (.seq (.reg [⟨.bin .eql (.s 2) (.c (.int .i64 5)), none⟩,
    ⟨.mv (.r 0), none⟩] [] [] [(3, 1, none)])
  (.cond (.s 3) (.skip)
   (.seq (.reg [⟨.bin .eql (.s 2) (.c (.int .i64 11)), none⟩,
     ⟨.mv (.r 0), none⟩] [] [] [(3, 1, none)])
   (.cond (.s 3) (.skip)
    (.seq (.reg [⟨.bin .eql (.s 2) (.c (.int .i64 12)), none⟩,
      ⟨.mv (.r 0), none⟩] [] [] [(3, 1, none)])
    (.drop [2] []))))))
  (.cond (.s 3) (.seq (.seq (.reg [⟨.mv (.c (.bool true)), none⟩] [] [] [(1, 0, none)])
   (.drop [2, 3] []))
   (.ret))
   (.skip)))))
 (.seq (.seq (.reg [⟨.mv (.c (.bool false)), none⟩] [] [] [(1, 0, none)])
 (.drop [2, 3] []))
 (.ret)))⟩
/-- 20: undertow/ops.Size -/
def h20 : Vm.Hint := ⟨[0, 2, 3, 4, 8, 12, 18, 23, 27], [], [], [[0], [0], [0, 0], [0, 0], [0, 0], [0], [0, 0], [0, 0], [0, 0], [0], [0, 0], [0, 0], [0, 0], [0, 0], [0, 0], [0], [0, 0], [0, 0], [0, 0], [0, 0], [0], [0, 0, 0, 0], [0], [0, 0, 0], [0], [0]], [], []⟩
def ir_ops_Size : Vm.Fn := ⟨[0, 2, 3, 4, 8, 12, 18, 23, 27], 0, 0, [.slot 1],
 .seq (.reg [⟨.mv (.c (.int .i64 0)), none⟩] [] [] [(1, 0, none)])
 (.seq (.seq (.reg [⟨.mv (.s 0), none⟩] [] [] [(2, 0, none)])
 (.block 0 (.seq (.seq (.reg [⟨.bin .eql (.s 2) (.c (.int .i64 11)), none⟩,
    ⟨.mv (.r 0), none⟩] [] [] [(3, 1, none)])
  (.cond (.s 3) (.skip)
   (.seq (.reg [⟨.bin .eql (.s 2) (.c (.int .i64 15)), none⟩,
     ⟨.mv (.r 0), none⟩] [] [] [(3, 1, none)])
   (.cond (.s 3) (.skip)
    (.reg [⟨.bin .eql (.s 2) (.c (.int .i64 18)), none⟩,
      ⟨.mv (.r 0), none⟩] [] [] [(3, 1, none)])))))
  (.cond (.s 3) (.seq (.reg [⟨.mv (.c (.int .i64 1)), none⟩] [] [] [(1, 0, none)])
   (.ret))
   (.seq (.seq (.reg [⟨.bin .eql (.s 2) (.c (.int .i64 12)), none⟩,
     ⟨.mv (.r 0), none⟩] [] [] [(4, 1, none)])
   (.cond (.s 4) (.skip)
    (.seq (.reg [⟨.bin .eql (.s 2) (.c (.int .i64 16)), none⟩,
      ⟨.mv (.r 0), none⟩] [] [] [(4, 1, none)])
    (.cond (.s 4) (.skip)
     (.reg [⟨.bin .eql (.s 2) (.c (.int .i64 19)), none⟩,
       ⟨.mv (.r 0), none⟩] [] [] [(4, 1, none)])))))
   (.cond (.s 4) (.seq (.reg [⟨.mv (.c (.int .i64 2)), none⟩] [] [] [(1, 0, none)])
    (.ret))
    (.seq (.seq (.reg [⟨.bin .eql (.s 2) (.c (.int .i64 13)), none⟩,
      ⟨.mv (.r 0), none⟩] [] [] [(5, 1, none)])
    (.cond (.s 5) (.skip)
     (.seq (.reg [⟨.bin .eql (.s 2) (.c (.int .i64 17)), none⟩,
       ⟨.mv (.r 0), none⟩] [] [] [(5, 1, none)])
     (.cond (.s 5) (.skip)
      (.seq (.reg [⟨.bin .eql (.s 2) (.c (.int .i64 20)), none⟩,
        ⟨.mv (.r 0), none⟩] [] [] [(5, 1, none)])
      (.cond (.s 5) (.skip)
       (.seq (.reg [⟨.bin .eql (.s 2) (.c (.int .i64 54)), none⟩,
         ⟨.mv (.r 0), none⟩] [] [] [(5, 1, none)])
       (.cond (.s 5) (.skip)
        (.reg [⟨.bin .eql (.s 2) (.c (.int .i64 56)), none⟩,
          ⟨.mv (.r 0), none⟩] [] [] [(5, 1, none)])))))))))
    (.cond (.s 5) (.seq (.reg [⟨.mv (.c (.int .i64 4)), none⟩] [] [] [(1, 0, none)])
     (.ret))
     (.seq (.seq (.reg [⟨.bin .eql (.s 2) (.c (.int .i64 14)), none⟩,
       ⟨.mv (.r 0), none⟩] [] [] [(6, 1, none)])
     (.cond (.s 6) (.skip)
      (.seq (.reg [⟨.bin .eql (.s 2) (.c (.int .i64 21)), none⟩,
        ⟨.mv (.r 0), none⟩] [] [] [(6, 1, none)])
      (.cond (.s 6) (.skip)
       (.seq (.reg [⟨.bin .eql (.s 2) (.c (.int .i64 55)), none⟩,
         ⟨.mv (.r 0), none⟩] [] [] [(6, 1, none)])
       (.cond (.s 6) (.skip)
        (.reg [⟨.bin .eql (.s 2) (.c (.int .i64 57)), none⟩,
          ⟨.mv (.r 0), none⟩] [] [] [(6, 1, none)])))))))
     (.cond (.s 6) (.seq (.reg [⟨.mv (.c (.int .i64 8)), none⟩] [] [] [(1, 0, none)])
      (.ret))
      (.skip)))))))))))
 (.seq (.block 1 (.seq (.reg [⟨.mv (.s 0), none⟩,
    ⟨.call .val n_ops_Sort [(.r 0)], none⟩,
    ⟨.bin .neq (.r 1) (.c (.int .i64 12)), none⟩,
    ⟨.mv (.r 2), none⟩] [] [] [(7, 3, none)])
  (.cond (.s 7) (.seq (.reg [⟨.mv (.c (.int .i64 0)), none⟩] [] [] [(1, 0, none)])
   (.ret))
   (.seq (.reg [⟨.mv (.s 0), none⟩,
     ⟨.bin .leq (.r 0) (.c (.int .i64 66)), none⟩,
     ⟨.mv (.r 1), none⟩] [] [] [(8, 2, none)])
   (.cond (.s 8) (.seq (.reg [⟨.mv (.c (.int .i64 4)), none⟩] [] [] [(1, 0, none)])
    (.ret))
    (.skip))))))
 (.seq (.reg [⟨.mv (.c (.int .i64 8)), none⟩] [] [] [(1, 0, none)])
 (.ret))))⟩
/-- 21: undertow/undertowref20.IsEvent -/
def h21 : Vm.Hint := ⟨[0, 1, 2, 3], [1], [], [[1, 0], [0, 0, 0, 0, 0, 0], [0, 0, 0, 0, 0, 0, 0, 0, 0, 0, 0, 0, 0, 0, 0, 0, 0, 0, 0, 0, 0, 0, 0]], [([0, 2], []), ([], []), ([1, 3], [(true, 0)])], []⟩
def ir_undertowref20_IsEvent : Vm.Fn := ⟨[0, 1, 2, 3], 1, 0, [.slot 2],
 .seq (.seq (.reg [⟨.lbox 0 27 (.s 0), none⟩,
   ⟨.mv (.c (.bool false)), none⟩] [(true, 0)] [] [(1, 0, some 1), (2, 1, none)])
 (.drop [0, 2] []))
 (.seq (.reg [⟨.off 0 (.s 1), none⟩,
   ⟨.off 1 (.r 0), none⟩,
   ⟨.off 0 (.r 1), none⟩,
   ⟨.load 0 false 1 (.r 2), none⟩,
   ⟨.call .val n_undertowref05_Sort [(.r 3)], none⟩,
   ⟨.mv (.r 4), none⟩] [] [] [(3, 5, none)])
 (.seq (.seq (.reg [⟨.off 0 (.s 1), none⟩,
   ⟨.off 10 (.r 0), none⟩,
   ⟨.load 0 false 1 (.r 1), none⟩,
   ⟨.bin .eql (.r 2) (.c (.int .i64 0)), none⟩,
   ⟨.mv (.r 3), none⟩,
   ⟨.off 0 (.s 1), some (4, true)⟩,
   ⟨.off 1 (.r 5), some (4, true)⟩,
   ⟨.off 0 (.r 6), some (4, true)⟩,
   ⟨.load 0 false 1 (.r 7), some (4, true)⟩,
   ⟨.call .val n_undertowref05_Size [(.r 8)], some (4, true)⟩,
   ⟨.bin .gtr (.r 9) (.c (.int .i64 0)), some (4, true)⟩,
   ⟨.pick (.r 4) (.r 10) (.c (.bool false)), none⟩,
   ⟨.mv (.r 11), none⟩,
   ⟨.mv (.s 3), some (12, true)⟩,
   ⟨.bin .eql (.r 13) (.c (.int .i64 11)), some (12, true)⟩,
   ⟨.mv (.r 14), some (12, true)⟩,
   ⟨.off 0 (.s 1), some (15, true)⟩,
   ⟨.off 15 (.r 16), some (15, true)⟩,
   ⟨.load 0 false 1 (.r 17), some (15, true)⟩,
   ⟨.pick (.r 15) (.r 18) (.c (.bool false)), some (12, true)⟩,
   ⟨.un .not (.r 19), some (12, true)⟩,
   ⟨.pick (.r 12) (.r 20) (.c (.bool false)), none⟩,
   ⟨.mv (.r 21), none⟩] [] [] [(2, 22, none)])
 (.drop [1, 3] [(true, 0)]))
 (.ret)))⟩
/-- 22: undertow/undertowref05.Sort -/
def h22 : Vm.Hint := ⟨[0, 2, 3, 4, 7, 11, 19], [], [], [[0], [0, 0], [0, 0], [0], [0], [0, 0, 0, 0], [0, 0, 0], [0, 0, 0, 0, 0, 0], [0, 0, 0], [0, 0, 0, 0, 0, 0, 0], [0]], [], []⟩
def ir_undertowref05_Sortl0 : C :=
 .seq (.seq (.reg [⟨.mv (.s 3), none⟩,
   ⟨.mv (.s 2), none⟩,
   ⟨.len 1 (.r 1), none⟩,
   ⟨.bin .lss (.r 0) (.r 2), none⟩] [] [] [(5, 3, none)])
 (.cond (.s 5) (.skip)
  (.exit 0)))
 (.seq (.block 1 (.seq (.seq (.reg [⟨.mv (.s 0), none⟩,
    ⟨.mv (.s 2), none⟩,
    ⟨.mv (.s 3), none⟩,
    ⟨.iaS 1 (.r 1) (.r 2), none⟩,
    ⟨.load 0 false 1 (.r 3), none⟩,
    ⟨.bin .leq (.r 0) (.r 4), none⟩] [] [] [(6, 5, none)])
  (.cond (.s 6) (.seq (.reg [⟨.mv (.s 3), none⟩,
     ⟨.bin .add (.r 0) (.c (.int .i64 1)), none⟩,
     ⟨.mv (.r 1), none⟩] [] [] [(1, 2, none)])
   (.ret))
   (.skip)))
  (.reg [⟨.mv (.s 0), none⟩,
    ⟨.mv (.s 2), none⟩,
    ⟨.mv (.s 3), none⟩,
    ⟨.iaS 1 (.r 1) (.r 2), none⟩,
    ⟨.load 0 false 1 (.r 3), none⟩,
    ⟨.bin .sub (.r 0) (.r 4), none⟩,
    ⟨.mv (.r 5), none⟩] [] [] [(0, 6, none)])))
 (.reg [⟨.mv (.s 3), none⟩,
   ⟨.bin .add (.r 0) (.c (.int .i64 1)), none⟩,
   ⟨.mv (.r 1), none⟩] [] [] [(3, 2, none)]))
def ir_undertowref05_Sort : Vm.Fn := ⟨[0, 2, 3, 4, 7, 11, 19], 0, 0, [.slot 1],
 .seq (.reg [⟨.mv (.c (.int .i64 0)), none⟩] [] [] [(1, 0, none)])
 (.seq (.reg [⟨.lit 0 1 [[.int .i64 0], [.int .i64 0], [.int .i64 0], [.int .i64 0], [.int .i64 0], [.int .i64 0], [.int .i64 0], [.int .i64 0], [.int .i64 0], [.int .i64 0], [.int .i64 0], [.int .i64 0]] [(0, (.c (.int .i64 2))), (1, (.c (.int .i64 2))), (2, (.c (.int .i64 6))), (3, (.c (.int .i64 7))), (4, (.c (.int .i64 4))), (5, (.c (.int .i64 13))), (6, (.c (.int .i64 15))), (7, (.c (.int .i64 2))), (8, (.c (.int .i64 2))), (9, (.c (.int .i64 2))), (10, (.c (.int .i64 2))), (11, (.c (.int .i64 18)))], none⟩,
   ⟨.mv (.r 0), none⟩] [] [] [(2, 1, none)])
 (.seq (.seq (.reg [⟨.mv (.s 0), none⟩,
   ⟨.bin .lss (.r 0) (.c (.int .i64 1)), none⟩] [] [] [(4, 1, none)])
 (.cond (.s 4) (.seq (.reg [⟨.mv (.c (.int .i64 0)), none⟩] [] [] [(1, 0, none)])
  (.ret))
  (.skip)))
 (.seq (.seq (.reg [⟨.mv (.c (.int .i64 0)), none⟩] [] [] [(3, 0, none)])
 (.block 0 (.loop ir_undertowref05_Sortl0)))
 (.seq (.reg [⟨.mv (.c (.int .i64 0)), none⟩] [] [] [(1, 0, none)])
 (.ret)))))⟩
/-- 23: undertow/undertowref05.Size -/
def h23 : Vm.Hint := ⟨[0, 2, 3, 4, 5, 19, 26, 32, 33, 35, 37], [], [], [[0], [0, 0, 0], [0, 0, 0], [0, 0, 0, 0, 0, 0, 0, 0, 0, 0], [0], [0, 0, 0, 0, 0, 0], [0, 0], [0, 0, 0, 0, 0, 0], [0], [0, 0], [0], [0, 0], [0], [0, 0], [0], [0]], [], []⟩
def ir_undertowref05_Size : Vm.Fn := ⟨[0, 2, 3, 4, 5, 19, 26, 32, 33, 35, 37], 0, 0, [.slot 1],
 .seq (.reg [⟨.mv (.c (.int .i64 0)), none⟩] [] [] [(1, 0, none)])
 (.seq (.reg [⟨.mv (.s 0), none⟩,
   ⟨.call .val n_undertowref05_Name [(.r 0)], none⟩,
   ⟨.mv (.r 1), none⟩] [] [] [(2, 2, none)])
 (.seq (.reg [⟨.mv (.s 0), none⟩,
   ⟨.call .val n_undertowref05_Sort [(.r 0)], none⟩,
   ⟨.mv (.r 1), none⟩] [] [] [(3, 2, none)])
 (.seq (.seq (.reg [⟨.mv (.s 3), none⟩,
   ⟨.bin .lss (.r 0) (.c (.int .i64 4)), none⟩,
   ⟨.mv (.r 1), none⟩,
   ⟨.mv (.s 3), some (2, false)⟩,
   ⟨.bin .gtr (.r 3) (.c (.int .i64 5)), some (2, false)⟩,
   ⟨.mv (.r 4), some (2, false)⟩,
   ⟨.mv (.s 3), some (5, true)⟩,
   ⟨.bin .lss (.r 6) (.c (.int .i64 10)), some (5, true)⟩,
   ⟨.pick (.r 5) (.r 7) (.c (.bool false)), some (2, false)⟩,
   ⟨.pick (.r 2) (.c (.bool true)) (.r 8), none⟩] [] [] [(5, 9, none)])
 (.cond (.s 5) (.seq (.reg [⟨.mv (.c (.int .i64 0)), none⟩] [] [] [(1, 0, none)])
  (.ret))
  (.skip)))
 (.seq (.reg [⟨.mv (.s 2), none⟩,
   ⟨.mv (.s 2), none⟩,
   ⟨.len 0 (.r 1), none⟩,
   ⟨.bin .sub (.r 2) (.c (.int .i64 1)), none⟩,
   ⟨.ixS (.r 0) (.r 3), none⟩,
   ⟨.mv (.r 4), none⟩] [] [] [(4, 5, none)])
 (.seq (.seq (.reg [⟨.mv (.s 4), none⟩,
   ⟨.bin .eql (.r 0) (.c (.int .u8 117)), none⟩] [] [] [(6, 1, none)])
 (.cond (.s 6) (.reg [⟨.mv (.s 2), none⟩,
    ⟨.mv (.s 2), none⟩,
    ⟨.len 0 (.r 1), none⟩,
    ⟨.bin .sub (.r 2) (.c (.int .i64 2)), none⟩,
    ⟨.ixS (.r 0) (.r 3), none⟩,
    ⟨.mv (.r 4), none⟩] [] [] [(4, 5, none)])
  (.skip)))
 (.seq (.seq (.reg [⟨.mv (.s 4), none⟩] [] [] [(7, 0, none)])
 (.block 0 (.seq (.reg [⟨.bin .eql (.s 7) (.c (.int .u8 98)), none⟩,
    ⟨.mv (.r 0), none⟩] [] [] [(8, 1, none)])
  (.cond (.s 8) (.seq (.reg [⟨.mv (.c (.int .i64 1)), none⟩] [] [] [(1, 0, none)])
   (.ret))
   (.seq (.reg [⟨.bin .eql (.s 7) (.c (.int .u8 104)), none⟩,
     ⟨.mv (.r 0), none⟩] [] [] [(9, 1, none)])
   (.cond (.s 9) (.seq (.reg [⟨.mv (.c (.int .i64 2)), none⟩] [] [] [(1, 0, none)])
    (.ret))
    (.seq (.reg [⟨.bin .eql (.s 7) (.c (.int .u8 119)), none⟩,
      ⟨.mv (.r 0), none⟩] [] [] [(10, 1, none)])
    (.cond (.s 10) (.seq (.reg [⟨.mv (.c (.int .i64 4)), none⟩] [] [] [(1, 0, none)])
     (.ret))
     (.skip)))))))))
 (.seq (.reg [⟨.mv (.c (.int .i64 8)), none⟩] [] [] [(1, 0, none)])
 (.ret))))))))⟩
/-- 24: slices.IndexFunc[[]undertow/api.Event,undertow/api.Event] -/
def h24 : Vm.Hint := ⟨[0, 1, 4, 5, 7, 8, 9, 16], [], [], [[0], [0, 0, 0], [0], [0, 0], [0, 0, 0, 0, 0, 1], [0, 0], [0, 0], [0]], [([2], []), ([], []), ([], []), ([6], []), ([], []), ([0, 1, 3, 4, 5, 7], []), ([3, 7], []), ([0, 1, 4, 5, 6], [])], []⟩
def ir_slices_IndexFunc_api_Event_api_Eventl0 : C :=
 .seq (.reg [⟨.bin .lss (.s 5) (.s 4), none⟩] [] [] [(6, 0, none)])
 (.seq (.cond (.s 6) (.skip)
  (.exit 0))
 (.seq (.block 1 (.seq (.seq (.reg [⟨.mv (.s 5), none⟩,
    ⟨.mv (.r 0), none⟩] [] [] [(3, 1, none)])
  (.drop [6] []))
  (.seq (.reg [⟨.mv (.s 1), none⟩,
    ⟨.mv (.s 0), none⟩,
    ⟨.mv (.s 3), none⟩,
    ⟨.iaS 33 (.r 1) (.r 2), none⟩,
    ⟨.load 0 true 33 (.r 3), none⟩,
    ⟨.callv .heap (.r 0) [(.r 4)], none⟩] [] [] [(7, 5, none)])
  (.cond (.s 7) (.seq (.seq (.reg [⟨.mv (.s 3), none⟩,
     ⟨.mv (.r 0), none⟩] [] [] [(2, 1, none)])
   (.drop [0, 1, 3, 4, 5, 7] []))
   (.ret))
   (.skip)))))
 (.seq (.reg [⟨.bin .add (.s 5) (.c (.int .i64 1)), none⟩,
   ⟨.mv (.r 0), none⟩] [] [] [(5, 1, none)])
 (.drop [3, 7] []))))
def ir_slices_IndexFunc_api_Event_api_Event : Vm.Fn := ⟨[0, 1, 4, 5, 7, 8, 9, 16], 0, 0, [.slot 2],
 .seq (.seq (.reg [⟨.mv (.c (.int .i64 0)), none⟩] [] [] [(2, 0, none)])
 (.drop [2] []))
 (.seq (.seq (.reg [⟨.mv (.s 0), none⟩,
   ⟨.len 1 (.r 0), none⟩,
   ⟨.mv (.c (.int .i64 0)), none⟩] [] [] [(4, 1, none), (5, 2, none)])
 (.block 0 (.loop ir_slices_IndexFunc_api_Event_api_Eventl0)))
 (.seq (.seq (.reg [⟨.mv (.c (.int .i64 (-1))), none⟩] [] [] [(2, 0, none)])
 (.drop [0, 1, 4, 5, 6] []))
 (.ret)))⟩
/-- 25: undertow/cand.Find$1 -/
def h25 : Vm.Hint := ⟨[0, 1, 2, 3], [2], [], [[1, 0], [0, 0, 0, 0, 0, 0]], [([0, 3], []), ([2], [(true, 0)])], []⟩
def ir_cand_Find_1 : Vm.Fn := ⟨[0, 1, 2, 3], 1, 0, [.slot 3],
 .seq (.seq (.reg [⟨.lbox 0 33 (.s 0), none⟩,
   ⟨.mv (.c (.bool false)), none⟩] [(true, 0)] [] [(2, 0, some 1), (3, 1, none)])
 (.drop [0, 3] []))
 (.seq (.seq (.reg [⟨.off 2 (.s 2), none⟩,
   ⟨.off 16 (.r 0), none⟩,
   ⟨.load 0 false 1 (.r 1), none⟩,
   ⟨.load 0 false 1 (.s 1), none⟩,
   ⟨.bin .eql (.r 2) (.r 3), none⟩,
   ⟨.mv (.r 4), none⟩] [] [] [(3, 5, none)])
 (.drop [2] [(true, 0)]))
 (.ret))⟩
/-- 26: undertow/cand.faults -/
def h26 : Vm.Hint := ⟨[0], [], [], [[0], [0, 0, 0, 0, 0, 0, 0, 0, 0, 0]], [([0], []), ([], [])], []⟩
def ir_cand_faults : Vm.Fn := ⟨[0], 0, 0, [.slot 0],
 .seq (.seq (.reg [⟨.mv (.c (.nils)), none⟩] [] [] [(0, 0, none)])
 (.drop [0] []))
 (.seq (.reg [⟨.build [.nilf] [(0, 1, (.c (.fn 34 [] [])))], none⟩,
   ⟨.build [.nilf] [(0, 1, (.c (.fn 35 [] [])))], none⟩,
   ⟨.build [.nilf] [(0, 1, (.c (.fn 36 [] [])))], none⟩,
   ⟨.build [.nilf] [(0, 1, (.c (.fn 37 [] [])))], none⟩,
   ⟨.build [.nilf] [(0, 1, (.c (.fn 38 [] [])))], none⟩,
   ⟨.build [.nilf] [(0, 1, (.c (.fn 39 [] [])))], none⟩,
   ⟨.build [.nilf] [(0, 1, (.c (.fn 40 [] [])))], none⟩,
   ⟨.build [.nilf] [(0, 1, (.c (.fn 41 [] [])))], none⟩,
   ⟨.lit 0 1 [[.nilf], [.nilf], [.nilf], [.nilf], [.nilf], [.nilf], [.nilf], [.nilf]] [(0, (.r 0)), (1, (.r 1)), (2, (.r 2)), (3, (.r 3)), (4, (.r 4)), (5, (.r 5)), (6, (.r 6)), (7, (.r 7))], none⟩,
   ⟨.mv (.r 8), none⟩] [] [] [(0, 9, none)])
 (.ret))⟩
/-- 27: undertow/undertowref08.Where -/
def h27 : Vm.Hint := ⟨[0, 1, 2, 6, 7, 11, 20, 35], [], [], [[0], [0, 0, 0], [0, 0], [0], [0, 0, 0, 0, 0, 0, 0, 0, 0], [0], [0, 0, 0, 0, 0, 0, 0, 0, 0, 0, 0, 0, 0, 0, 0], [0], [0]], [([3], []), ([0], []), ([], []), ([1, 2, 4, 5], []), ([5], []), ([1, 2, 4, 6], []), ([1, 2, 4, 6], []), ([7], []), ([7], [])], []⟩
def ir_undertowref08_Where : Vm.Fn := ⟨[0, 1, 2, 6, 7, 11, 20, 35], 0, 0, [.slot 3],
 .seq (.seq (.reg [⟨.mv (.c (.int .i64 0)), none⟩] [] [] [(3, 0, none)])
 (.drop [3] []))
 (.seq (.seq (.reg [⟨.mv (.s 0), none⟩,
   ⟨.call .val n_undertowref05_Size [(.r 0)], none⟩,
   ⟨.mv (.r 1), none⟩] [] [] [(4, 2, none)])
 (.drop [0] []))
 (.seq (.seq (.reg [⟨.mv (.s 4), none⟩,
   ⟨.bin .eql (.r 0) (.c (.int .i64 0)), none⟩] [] [] [(5, 1, none)])
 (.cond (.s 5) (.seq (.seq (.reg [⟨.mv (.c (.int .i64 0)), none⟩] [] [] [(3, 0, none)])
  (.drop [1, 2, 4, 5] []))
  (.ret))
  (.skip)))
 (.seq (.seq (.seq (.reg [⟨.mv (.s 1), none⟩,
   ⟨.mv (.s 4), none⟩,
   ⟨.i2i .u64 (.r 1), none⟩,
   ⟨.bin .quo (.r 0) (.r 2), none⟩,
   ⟨.mv (.s 4), none⟩,
   ⟨.i2i .u64 (.r 4), none⟩,
   ⟨.bin .mul (.r 3) (.r 5), none⟩,
   ⟨.mv (.s 1), none⟩,
   ⟨.bin .neq (.r 6) (.r 7), none⟩] [] [] [(6, 8, none)])
 (.drop [5] []))
 (.cond (.s 6) (.seq (.seq (.reg [⟨.mv (.c (.int .i64 4)), none⟩] [] [] [(3, 0, none)])
  (.drop [1, 2, 4, 6] []))
  (.ret))
  (.skip)))
 (.seq (.seq (.seq (.reg [⟨.mv (.s 2), none⟩,
   ⟨.mv (.s 4), none⟩,
   ⟨.bin .lss (.r 0) (.r 1), none⟩,
   ⟨.mv (.r 2), none⟩,
   ⟨.mv (.s 1), some (3, false)⟩,
   ⟨.bin .gtr (.r 4) (.c (.int .u64 9000000000000000000)), some (3, false)⟩,
   ⟨.pick (.r 3) (.c (.bool true)) (.r 5), none⟩,
   ⟨.mv (.r 6), none⟩,
   ⟨.mv (.s 1), some (7, false)⟩,
   ⟨.i2i .i64 (.r 8), some (7, false)⟩,
   ⟨.mv (.s 2), some (7, false)⟩,
   ⟨.mv (.s 4), some (7, false)⟩,
   ⟨.bin .sub (.r 10) (.r 11), some (7, false)⟩,
   ⟨.bin .gtr (.r 9) (.r 12), some (7, false)⟩,
   ⟨.pick (.r 7) (.c (.bool true)) (.r 13), none⟩] [] [] [(7, 14, none)])
 (.drop [1, 2, 4, 6] []))
 (.cond (.s 7) (.seq (.seq (.reg [⟨.mv (.c (.int .i64 3)), none⟩] [] [] [(3, 0, none)])
  (.drop [7] []))
  (.ret))
  (.skip)))
 (.seq (.seq (.reg [⟨.mv (.c (.int .i64 0)), none⟩] [] [] [(3, 0, none)])
 (.drop [7] []))
 (.ret))))))⟩
/-- 28: undertow/undertowref20.Has -/
def h28 : Vm.Hint := ⟨[0, 1, 2, 4], [2], [], [[1, 0], [0, 0, 0, 0, 0, 0, 0, 0, 0, 0, 0, 0, 0, 0, 0, 0, 0, 0, 0, 0]], [([0, 3], []), ([1, 2], [(true, 0)])], []⟩
def ir_undertowref20_Has : Vm.Fn := ⟨[0, 1, 2, 4], 1, 0, [.slot 3],
 .seq (.seq (.reg [⟨.lbox 0 33 (.s 0), none⟩,
   ⟨.mv (.c (.bool false)), none⟩] [(true, 0)] [] [(2, 0, some 1), (3, 1, none)])
 (.drop [0, 3] []))
 (.seq (.seq (.reg [⟨.off 31 (.s 2), none⟩,
   ⟨.load 0 false 1 (.r 0), none⟩,
   ⟨.bin .geq (.r 1) (.c (.int .i64 0)), none⟩,
   ⟨.mv (.r 2), none⟩,
   ⟨.mv (.s 1), some (3, true)⟩,
   ⟨.off 31 (.s 2), some (3, true)⟩,
   ⟨.load 0 false 1 (.r 5), some (3, true)⟩,
   ⟨.bin .geq (.r 4) (.r 6), some (3, true)⟩,
   ⟨.pick (.r 3) (.r 7) (.c (.bool false)), none⟩,
   ⟨.mv (.r 8), none⟩,
   ⟨.mv (.s 1), some (9, true)⟩,
   ⟨.off 31 (.s 2), some (9, true)⟩,
   ⟨.load 0 false 1 (.r 11), some (9, true)⟩,
   ⟨.off 32 (.s 2), some (9, true)⟩,
   ⟨.load 0 false 1 (.r 13), some (9, true)⟩,
   ⟨.bin .add (.r 12) (.r 14), some (9, true)⟩,
   ⟨.bin .sub (.r 15) (.c (.int .i64 1)), some (9, true)⟩,
   ⟨.bin .leq (.r 10) (.r 16), some (9, true)⟩,
   ⟨.pick (.r 9) (.r 17) (.c (.bool false)), none⟩,
   ⟨.mv (.r 18), none⟩] [] [] [(3, 19, none)])
 (.drop [1, 2] [(true, 0)]))
 (.ret))⟩
/-- 29: undertow/undertowref20.Byte -/
def h29 : Vm.Hint := ⟨[0, 1, 2, 4, 5, 29], [2], [], [[1, 0, 0], [0, 0, 0, 0, 0, 0, 0, 0, 0, 0, 0, 0, 0, 0, 0, 0, 0, 0, 0, 0, 0, 0, 0, 0], [0, 0], [0, 0, 0, 0, 0, 0, 0, 0, 0, 0, 0, 0, 0, 0]], [([0, 3, 4], []), ([], []), ([1, 2, 5], [(true, 0)]), ([1, 2, 5], [(true, 0)])], []⟩
def ir_undertowref20_Byte : Vm.Fn := ⟨[0, 1, 2, 4, 5, 29], 1, 0, [.slot 3, .slot 4],
 .seq (.seq (.reg [⟨.lbox 0 33 (.s 0), none⟩,
   ⟨.mv (.c (.int .u8 0)), none⟩,
   ⟨.mv (.c (.bool false)), none⟩] [(true, 0)] [] [(2, 0, some 1), (3, 1, none), (4, 2, none)])
 (.drop [0, 3, 4] []))
 (.seq (.seq (.reg [⟨.off 30 (.s 2), none⟩,
   ⟨.load 0 false 1 (.r 0), none⟩,
   ⟨.un .not (.r 1), none⟩,
   ⟨.mv (.r 2), none⟩,
   ⟨.off 31 (.s 2), some (3, false)⟩,
   ⟨.load 0 false 1 (.r 4), some (3, false)⟩,
   ⟨.bin .lss (.r 5) (.c (.int .i64 0)), some (3, false)⟩,
   ⟨.pick (.r 3) (.c (.bool true)) (.r 6), none⟩,
   ⟨.mv (.r 7), none⟩,
   ⟨.off 31 (.s 2), some (8, false)⟩,
   ⟨.load 0 false 1 (.r 9), some (8, false)⟩,
   ⟨.bin .gtr (.r 10) (.c (.int .i64 9000000000000000000)), some (8, false)⟩,
   ⟨.pick (.r 8) (.c (.bool true)) (.r 11), none⟩,
   ⟨.mv (.r 12), none⟩,
   ⟨.off 32 (.s 2), some (13, false)⟩,
   ⟨.load 0 false 1 (.r 14), some (13, false)⟩,
   ⟨.bin .gtr (.r 15) (.c (.int .i64 100)), some (13, false)⟩,
   ⟨.pick (.r 13) (.c (.bool true)) (.r 16), none⟩,
   ⟨.mv (.r 17), none⟩,
   ⟨.load 0 true 33 (.s 2), some (18, false)⟩,
   ⟨.mv (.s 1), some (18, false)⟩,
   ⟨.call .val n_undertowref20_Has [(.r 19), (.r 20)], some (18, false)⟩,
   ⟨.un .not (.r 21), some (18, false)⟩,
   ⟨.pick (.r 18) (.c (.bool true)) (.r 22), none⟩] [] [] [(5, 23, none)])
 (.cond (.s 5) (.seq (.seq (.reg [⟨.mv (.c (.int .u8 0)), none⟩,
    ⟨.mv (.c (.bool false)), none⟩] [] [] [(3, 0, none), (4, 1, none)])
  (.drop [1, 2, 5] [(true, 0)]))
  (.ret))
  (.skip)))
 (.seq (.seq (.reg [⟨.off 2 (.s 2), none⟩,
   ⟨.off 0 (.r 0), none⟩,
   ⟨.off 14 (.r 1), none⟩,
   ⟨.load 0 false 1 (.r 2), none⟩,
   ⟨.mv (.s 1), none⟩,
   ⟨.off 31 (.s 2), none⟩,
   ⟨.load 0 false 1 (.r 5), none⟩,
   ⟨.bin .sub (.r 4) (.r 6), none⟩,
   ⟨.bin .mul (.c (.int .i64 8)) (.r 7), none⟩,
   ⟨.i2i .u64 (.r 8), none⟩,
   ⟨.bin .shr (.r 3) (.r 9), none⟩,
   ⟨.i2i .u8 (.r 10), none⟩,
   ⟨.mv (.r 11), none⟩,
   ⟨.mv (.c (.bool true)), none⟩] [] [] [(3, 12, none), (4, 13, none)])
 (.drop [1, 2, 5] [(true, 0)]))
 (.ret)))⟩
/-- 30: undertow/cand.has -/
def h30 : Vm.Hint := ⟨[0, 1, 2, 4], [2], [], [[1, 0], [0, 0, 0, 0, 0, 0, 0, 0, 0, 0, 0, 0, 0, 0, 0, 0, 0, 0, 0]], [([0, 3], []), ([1, 2], [(true, 0)])], []⟩
def ir_cand_has : Vm.Fn := ⟨[0, 1, 2, 4], 1, 0, [.slot 3],
 .seq (.seq (.reg [⟨.lbox 0 33 (.s 0), none⟩,
   ⟨.mv (.c (.bool false)), none⟩] [(true, 0)] [] [(2, 0, some 1), (3, 1, none)])
 (.drop [0, 3] []))
 (.seq (.seq (.reg [⟨.off 31 (.s 2), none⟩,
   ⟨.load 0 false 1 (.r 0), none⟩,
   ⟨.bin .geq (.r 1) (.c (.int .i64 0)), none⟩,
   ⟨.mv (.r 2), none⟩,
   ⟨.mv (.s 1), some (3, true)⟩,
   ⟨.off 31 (.s 2), some (3, true)⟩,
   ⟨.load 0 false 1 (.r 5), some (3, true)⟩,
   ⟨.bin .geq (.r 4) (.r 6), some (3, true)⟩,
   ⟨.pick (.r 3) (.r 7) (.c (.bool false)), none⟩,
   ⟨.mv (.r 8), none⟩,
   ⟨.mv (.s 1), some (9, true)⟩,
   ⟨.off 31 (.s 2), some (9, true)⟩,
   ⟨.load 0 false 1 (.r 11), some (9, true)⟩,
   ⟨.bin .sub (.r 10) (.r 12), some (9, true)⟩,
   ⟨.off 32 (.s 2), some (9, true)⟩,
   ⟨.load 0 false 1 (.r 14), some (9, true)⟩,
   ⟨.bin .lss (.r 13) (.r 15), some (9, true)⟩,
   ⟨.pick (.r 9) (.r 16) (.c (.bool false)), none⟩,
   ⟨.mv (.r 17), none⟩] [] [] [(3, 18, none)])
 (.drop [1, 2] [(true, 0)]))
 (.ret))⟩
/-- 31: undertow/ops.Memory -/
def h31 : Vm.Hint := ⟨[0, 2], [], [], [[0], [0, 0, 0, 0]], [([1], []), ([0], [])], []⟩
def ir_ops_Memory : Vm.Fn := ⟨[0, 2], 0, 0, [.slot 1],
 .seq (.seq (.reg [⟨.mv (.c (.bool false)), none⟩] [] [] [(1, 0, none)])
 (.drop [1] []))
 (.seq (.seq (.reg [⟨.mv (.s 0), none⟩,
   ⟨.call .val n_ops_Size [(.r 0)], none⟩,
   ⟨.bin .gtr (.r 1) (.c (.int .i64 0)), none⟩,
   ⟨.mv (.r 2), none⟩] [] [] [(1, 3, none)])
 (.drop [0] []))
 (.ret))⟩
/-- 32: undertow/ops.Sort -/
def h32 : Vm.Hint := ⟨[0, 2, 3, 10, 13, 16, 19, 22, 25, 28, 31, 34, 37, 40], [], [], [[0], [0, 0, 0, 0, 0, 0, 0], [0], [0, 0, 0], [0], [0, 0, 0], [0], [0, 0, 0], [0], [0, 0, 0], [0], [0, 0, 0], [0], [0, 0, 0], [0], [0, 0, 0], [0], [0, 0, 0], [0], [0, 0, 0], [0], [0, 0, 0], [0], [0, 0, 0], [0], [0]], [], []⟩
def ir_ops_Sort : Vm.Fn := ⟨[0, 2, 3, 10, 13, 16, 19, 22, 25, 28, 31, 34, 37, 40], 0, 0, [.slot 1],
 .seq (.reg [⟨.mv (.c (.int .i64 0)), none⟩] [] [] [(1, 0, none)])
 (.seq (.block 0 (.seq (.reg [⟨.mv (.s 0), none⟩,
    ⟨.bin .lss (.r 0) (.c (.int .i64 1)), none⟩,
    ⟨.mv (.r 1), none⟩,
    ⟨.mv (.s 0), some (2, false)⟩,
    ⟨.bin .gtr (.r 3) (.c (.int .i64 75)), some (2, false)⟩,
    ⟨.pick (.r 2) (.c (.bool true)) (.r 4), none⟩,
    ⟨.mv (.r 5), none⟩] [] [] [(2, 6, none)])
  (.cond (.s 2) (.seq (.reg [⟨.mv (.c (.int .i64 0)), none⟩] [] [] [(1, 0, none)])
   (.ret))
   (.seq (.reg [⟨.mv (.s 0), none⟩,
     ⟨.bin .leq (.r 0) (.c (.int .i64 2)), none⟩,
     ⟨.mv (.r 1), none⟩] [] [] [(3, 2, none)])
   (.cond (.s 3) (.seq (.reg [⟨.mv (.c (.int .i64 1)), none⟩] [] [] [(1, 0, none)])
    (.ret))
    (.seq (.reg [⟨.mv (.s 0), none⟩,
      ⟨.bin .leq (.r 0) (.c (.int .i64 4)), none⟩,
      ⟨.mv (.r 1), none⟩] [] [] [(4, 2, none)])
    (.cond (.s 4) (.seq (.reg [⟨.mv (.c (.int .i64 2)), none⟩] [] [] [(1, 0, none)])
     (.ret))
     (.seq (.reg [⟨.mv (.s 0), none⟩,
       ⟨.bin .leq (.r 0) (.c (.int .i64 10)), none⟩,
       ⟨.mv (.r 1), none⟩] [] [] [(5, 2, none)])
     (.cond (.s 5) (.seq (.reg [⟨.mv (.c (.int .i64 3)), none⟩] [] [] [(1, 0, none)])
      (.ret))
      (.seq (.reg [⟨.mv (.s 0), none⟩,
        ⟨.bin .leq (.r 0) (.c (.int .i64 17)), none⟩,
        ⟨.mv (.r 1), none⟩] [] [] [(6, 2, none)])
      (.cond (.s 6) (.seq (.reg [⟨.mv (.c (.int .i64 4)), none⟩] [] [] [(1, 0, none)])
       (.ret))
       (.seq (.reg [⟨.mv (.s 0), none⟩,
         ⟨.bin .leq (.r 0) (.c (.int .i64 21)), none⟩,
         ⟨.mv (.r 1), none⟩] [] [] [(7, 2, none)])
       (.cond (.s 7) (.seq (.reg [⟨.mv (.c (.int .i64 5)), none⟩] [] [] [(1, 0, none)])
        (.ret))
        (.seq (.reg [⟨.mv (.s 0), none⟩,
          ⟨.bin .leq (.r 0) (.c (.int .i64 34)), none⟩,
          ⟨.mv (.r 1), none⟩] [] [] [(8, 2, none)])
        (.cond (.s 8) (.seq (.reg [⟨.mv (.c (.int .i64 6)), none⟩] [] [] [(1, 0, none)])
         (.ret))
         (.seq (.reg [⟨.mv (.s 0), none⟩,
           ⟨.bin .leq (.r 0) (.c (.int .i64 49)), none⟩,
           ⟨.mv (.r 1), none⟩] [] [] [(9, 2, none)])
         (.cond (.s 9) (.seq (.reg [⟨.mv (.c (.int .i64 7)), none⟩] [] [] [(1, 0, none)])
          (.ret))
          (.seq (.reg [⟨.mv (.s 0), none⟩,
            ⟨.bin .leq (.r 0) (.c (.int .i64 51)), none⟩,
            ⟨.mv (.r 1), none⟩] [] [] [(10, 2, none)])
          (.cond (.s 10) (.seq (.reg [⟨.mv (.c (.int .i64 8)), none⟩] [] [] [(1, 0, none)])
           (.ret))
           (.seq (.reg [⟨.mv (.s 0), none⟩,
             ⟨.bin .leq (.r 0) (.c (.int .i64 53)), none⟩,
             ⟨.mv (.r 1), none⟩] [] [] [(11, 2, none)])
           (.cond (.s 11) (.seq (.reg [⟨.mv (.c (.int .i64 9)), none⟩] [] [] [(1, 0, none)])
            (.ret))
            (.seq (.reg [⟨.mv (.s 0), none⟩,
              ⟨.bin .leq (.r 0) (.c (.int .i64 55)), none⟩,
              ⟨.mv (.r 1), none⟩] [] [] [(12, 2, none)])
            (.cond (.s 12) (.seq (.reg [⟨.mv (.c (.int .i64 10)), none⟩] [] [] [(1, 0, none)])
             (.ret))
             (.seq (.reg [⟨.mv (.s 0), none⟩,
               ⟨.bin .leq (.r 0) (.c (.int .i64 57)), none⟩,
               ⟨.mv (.r 1), none⟩] [] [] [(13, 2, none)])
             (.cond (.s 13) (.seq (.reg [⟨.mv (.c (.int .i64 11)), none⟩] [] [] [(1, 0, none)])
              (.ret))
              (.skip))))))))))))))))))))))))))
 (.seq (.reg [⟨.mv (.c (.int .i64 12)), none⟩] [] [] [(1, 0, none)])
 (.ret)))⟩
/-- 33: undertow/undertowref05.Name -/
def h33 : Vm.Hint := ⟨[0, 2, 3, 12], [], [], [[0], [0, 0], [0, 0, 0, 0, 0, 0, 0, 0], [0], [0, 0, 0, 0, 0, 0]], [], []⟩
def ir_undertowref05_Name : Vm.Fn := ⟨[0, 2, 3, 12], 0, 0, [.slot 1],
 .seq (.reg [⟨.mv (.c (.str [])), none⟩] [] [] [(1, 0, none)])
 (.seq (.reg [⟨.call .val n_undertowref05_Names [], none⟩,
   ⟨.mv (.r 0), none⟩] [] [] [(2, 1, none)])
 (.seq (.seq (.reg [⟨.mv (.s 0), none⟩,
   ⟨.bin .lss (.r 0) (.c (.int .i64 1)), none⟩,
   ⟨.mv (.r 1), none⟩,
   ⟨.mv (.s 0), some (2, false)⟩,
   ⟨.mv (.s 2), some (2, false)⟩,
   ⟨.len 1 (.r 4), some (2, false)⟩,
   ⟨.bin .gtr (.r 3) (.r 5), some (2, false)⟩,
   ⟨.pick (.r 2) (.c (.bool true)) (.r 6), none⟩] [] [] [(3, 7, none)])
 (.cond (.s 3) (.seq (.reg [⟨.mv (.c (.str [])), none⟩] [] [] [(1, 0, none)])
  (.ret))
  (.skip)))
 (.seq (.reg [⟨.mv (.s 2), none⟩,
   ⟨.mv (.s 0), none⟩,
   ⟨.bin .sub (.r 1) (.c (.int .i64 1)), none⟩,
   ⟨.iaS 1 (.r 0) (.r 2), none⟩,
   ⟨.load 0 false 1 (.r 3), none⟩,
   ⟨.mv (.r 4), none⟩] [] [] [(1, 5, none)])
 (.ret))))⟩
/-- 34: (undertow/cand.look).image -/
def h34 : Vm.Hint := ⟨[0, 1, 2], [1], [], [[1, 0], [0, 0, 0, 0, 0, 0, 0, 0, 0, 0, 0, 0, 0, 0, 0, 0, 0]], [([0, 2], []), ([1], [(true, 0)])], []⟩
def ir_cand_look_image : Vm.Fn := ⟨[0, 1, 2], 1, 0, [.slot 2],
 .seq (.seq (.reg [⟨.lbox 0 7 (.s 0), none⟩,
   ⟨.mv (.c (.bool false)), none⟩] [(true, 0)] [] [(1, 0, some 1), (2, 1, none)])
 (.drop [0, 2] []))
 (.seq (.seq (.reg [⟨.off 0 (.s 1), none⟩,
   ⟨.off 0 (.r 0), none⟩,
   ⟨.load 0 false 1 (.r 1), none⟩,
   ⟨.len 1 (.r 2), none⟩,
   ⟨.bin .gtr (.r 3) (.c (.int .i64 1024)), none⟩,
   ⟨.mv (.r 4), none⟩,
   ⟨.off 0 (.s 1), some (5, false)⟩,
   ⟨.off 4 (.r 6), some (5, false)⟩,
   ⟨.load 0 false 1 (.r 7), some (5, false)⟩,
   ⟨.len 1 (.r 8), some (5, false)⟩,
   ⟨.off 0 (.s 1), some (5, false)⟩,
   ⟨.off 0 (.r 10), some (5, false)⟩,
   ⟨.load 0 false 1 (.r 11), some (5, false)⟩,
   ⟨.len 1 (.r 12), some (5, false)⟩,
   ⟨.bin .neq (.r 9) (.r 13), some (5, false)⟩,
   ⟨.pick (.r 5) (.c (.bool true)) (.r 14), none⟩,
   ⟨.mv (.r 15), none⟩] [] [] [(2, 16, none)])
 (.drop [1] [(true, 0)]))
 (.ret))⟩
/-- 35: (undertow/cand.look).many -/
def h35 : Vm.Hint := ⟨[0, 1, 2, 3, 5, 8, 9, 10], [1], [], [[1, 0], [0], [0, 0, 0, 0], [0], [0, 0], [0, 0, 0, 0, 0], [0, 0], [0, 0, 0]], [([0, 2], []), ([], []), ([1], [(true, 0)]), ([], []), ([7], []), ([4], []), ([], []), ([3, 5, 6, 7], [])], []⟩
def ir_cand_look_manyl0 : C :=
 .seq (.reg [⟨.bin .lss (.s 6) (.c (.int .i64 3)), none⟩] [] [] [(7, 0, none)])
 (.seq (.cond (.s 7) (.skip)
  (.exit 0))
 (.seq (.block 1 (.seq (.seq (.reg [⟨.ixA 3 1 false (.s 5) (.s 6), none⟩,
    ⟨.mv (.r 0), none⟩] [] [] [(4, 1, none)])
  (.drop [7] []))
  (.seq (.reg [⟨.mv (.s 3), none⟩,
    ⟨.mv (.s 4), none⟩,
    ⟨.len 1 (.r 1), none⟩,
    ⟨.bin .add (.r 0) (.r 2), none⟩,
    ⟨.mv (.r 3), none⟩] [] [] [(3, 4, none)])
  (.drop [4] []))))
 (.reg [⟨.bin .add (.s 6) (.c (.int .i64 1)), none⟩,
   ⟨.mv (.r 0), none⟩] [] [] [(6, 1, none)])))
def ir_cand_look_many : Vm.Fn := ⟨[0, 1, 2, 3, 5, 8, 9, 10], 1, 0, [.slot 2],
 .seq (.seq (.reg [⟨.lbox 0 7 (.s 0), none⟩,
   ⟨.mv (.c (.bool false)), none⟩] [(true, 0)] [] [(1, 0, some 1), (2, 1, none)])
 (.drop [0, 2] []))
 (.seq (.reg [⟨.mv (.c (.int .i64 0)), none⟩] [] [] [(3, 0, none)])
 (.seq (.seq (.seq (.reg [⟨.off 0 (.s 1), none⟩,
   ⟨.off 1 (.r 0), none⟩,
   ⟨.load 0 true 3 (.r 1), none⟩,
   ⟨.mv (.c (.int .i64 0)), none⟩] [] [] [(5, 2, none), (6, 3, none)])
 (.drop [1] [(true, 0)]))
 (.block 0 (.loop ir_cand_look_manyl0)))
 (.seq (.seq (.reg [⟨.mv (.s 3), none⟩,
   ⟨.bin .gtr (.r 0) (.c (.int .i64 512)), none⟩,
   ⟨.mv (.r 1), none⟩] [] [] [(2, 2, none)])
 (.drop [3, 5, 6, 7] []))
 (.ret))))⟩
/-- 36: (undertow/cand.look).ids -/
def h36 : Vm.Hint := ⟨[0, 1, 2, 3, 5, 7, 11, 12, 13, 15, 16, 17, 18, 29], [1, 7], [], [[1, 0], [0, 0], [0, 0, 0, 0], [0], [0, 0], [0, 0, 0], [0], [0, 0, 2, 0], [0, 0, 0, 0, 0, 0, 0, 0, 0], [0], [0, 0, 0, 0], [0, 0], [0, 0], [0]], [([0, 2], []), ([], []), ([1], [(true, 0)]), ([], []), ([8], []), ([4], []), ([], []), ([12], []), ([], []), ([3, 5, 6, 7, 9, 10, 11, 13], [(true, 1)]), ([5, 13], [(true, 1)]), ([], []), ([9, 10, 11, 12], []), ([3, 6, 7, 8], [])], []⟩
def ir_cand_look_idsl0 : C :=
 .seq (.reg [⟨.bin .lss (.s 11) (.s 10), none⟩] [] [] [(12, 0, none)])
 (.seq (.cond (.s 12) (.skip)
  (.exit 2))
 (.seq (.block 3 (.seq (.seq (.reg [⟨.iaS 27 (.s 9) (.s 11), none⟩,
    ⟨.load 0 true 27 (.r 0), none⟩,
    ⟨.lalloc 1 [.int .u64 0, .int .i64 0, .int .i64 0, .int .i64 0, .int .i64 0, .int .i64 0, .bool false, .bool false, .int .i64 0, .int .i64 0, .int .i64 0, .int .u64 0, .int .u64 0, .int .u64 0, .int .u64 0, .bool false, .int .i64 0, .flt 0, .int .i64 0, .int .i64 0, .int .i64 0, .int .i64 0, .int .i64 0, .int .i64 0, .int .i64 0, .int .i64 0, .int .i64 0], none⟩,
    ⟨.store 0 27 (.r 2) (.r 1), none⟩] [(true, 1)] [] [(5, 2, some 3)])
  (.drop [12] []))
  (.seq (.seq (.reg [⟨.off 16 (.s 5), none⟩,
    ⟨.load 0 false 1 (.r 0), none⟩,
    ⟨.bin .lss (.r 1) (.c (.int .i64 0)), none⟩,
    ⟨.mv (.r 2), none⟩,
    ⟨.mv (.s 3), some (3, false)⟩,
    ⟨.off 16 (.s 5), some (3, false)⟩,
    ⟨.load 0 false 1 (.r 5), some (3, false)⟩,
    ⟨.look false false [.bool false] (.r 4) (.r 6), some (3, false)⟩,
    ⟨.pick (.r 3) (.c (.bool true)) (.r 7), none⟩] [] [] [(13, 8, none)])
  (.cond (.s 13) (.seq (.seq (.reg [⟨.mv (.c (.bool true)), none⟩] [] [] [(2, 0, none)])
   (.drop [3, 5, 6, 7, 9, 10, 11, 13] [(true, 1)]))
   (.ret))
   (.skip)))
  (.seq (.reg [⟨.mv (.s 3), none⟩,
    ⟨.off 16 (.s 5), none⟩,
    ⟨.load 0 false 1 (.r 1), none⟩,
    ⟨.mput (.r 0) (.r 2) (.c (.bool true)), none⟩] [] [] [])
  (.drop [5, 13] [(true, 1)])))))
 (.reg [⟨.bin .add (.s 11) (.c (.int .i64 1)), none⟩,
   ⟨.mv (.r 0), none⟩] [] [] [(11, 1, none)])))
def ir_cand_look_idsl1 : C :=
 .seq (.reg [⟨.bin .lss (.s 7) (.c (.int .i64 3)), none⟩] [] [] [(8, 0, none)])
 (.seq (.cond (.s 8) (.skip)
  (.exit 0))
 (.seq (.block 1 (.seq (.seq (.reg [⟨.ixA 3 1 false (.s 6) (.s 7), none⟩,
    ⟨.mv (.r 0), none⟩] [] [] [(4, 1, none)])
  (.drop [8] []))
  (.seq (.seq (.reg [⟨.mv (.s 4), none⟩,
    ⟨.len 1 (.r 0), none⟩,
    ⟨.mv (.c (.int .i64 0)), none⟩] [] [] [(9, 0, none), (10, 1, none), (11, 2, none)])
  (.drop [4] []))
  (.block 2 (.loop ir_cand_look_idsl0)))))
 (.seq (.reg [⟨.bin .add (.s 7) (.c (.int .i64 1)), none⟩,
   ⟨.mv (.r 0), none⟩] [] [] [(7, 1, none)])
 (.drop [9, 10, 11, 12] []))))
def ir_cand_look_ids : Vm.Fn := ⟨[0, 1, 2, 3, 5, 7, 11, 12, 13, 15, 16, 17, 18, 29], 2, 0, [.slot 2],
 .seq (.seq (.reg [⟨.lbox 0 7 (.s 0), none⟩,
   ⟨.mv (.c (.bool false)), none⟩] [(true, 0)] [] [(1, 0, some 1), (2, 1, none)])
 (.drop [0, 2] []))
 (.seq (.reg [⟨.mkmap, none⟩,
   ⟨.mv (.r 0), none⟩] [] [] [(3, 1, none)])
 (.seq (.seq (.seq (.reg [⟨.off 0 (.s 1), none⟩,
   ⟨.off 1 (.r 0), none⟩,
   ⟨.load 0 true 3 (.r 1), none⟩,
   ⟨.mv (.c (.int .i64 0)), none⟩] [] [] [(6, 2, none), (7, 3, none)])
 (.drop [1] [(true, 0)]))
 (.block 0 (.loop ir_cand_look_idsl1)))
 (.seq (.seq (.reg [⟨.mv (.c (.bool false)), none⟩] [] [] [(2, 0, none)])
 (.drop [3, 6, 7, 8] []))
 (.ret))))⟩
/-- 37: (undertow/cand.look).places -/
def h37 : Vm.Hint := ⟨[0, 1, 2], [], [], [[0, 0], [0, 0, 0, 1, 0]], [([0, 2], []), ([1], [])], []⟩
def ir_cand_look_places : Vm.Fn := ⟨[0, 1, 2], 0, 0, [.slot 2],
 .seq (.seq (.reg [⟨.hbox 7 (.s 0), none⟩,
   ⟨.mv (.c (.bool false)), none⟩] [] [] [(1, 0, none), (2, 1, none)])
 (.drop [0, 2] []))
 (.seq (.seq (.reg [⟨.off 5 (.s 1), none⟩,
   ⟨.load 0 false 1 (.r 0), none⟩,
   ⟨.mkfn 44 [] [(.s 1)], none⟩,
   ⟨.call .heap n_slices_ContainsFunc_api_Event_api_Event [(.r 1), (.r 2)], none⟩,
   ⟨.mv (.r 3), none⟩] [] [] [(2, 4, none)])
 (.drop [1] []))
 (.ret))⟩
/-- 38: (undertow/cand.look).tags -/
def h38 : Vm.Hint := ⟨[0, 1, 2, 4, 6, 7, 9, 10, 12, 13, 14, 16, 19, 20, 21, 23, 24, 25, 26, 37, 45, 46, 47, 48, 52, 57, 58, 59, 60, 64, 65, 66, 78, 90], [1, 12, 15], [], [[1, 0], [0, 0, 0, 0], [0], [0, 0], [0, 0, 0], [0], [0, 0, 0, 0], [0], [0, 0, 0, 0, 0, 0, 0, 0, 0], [0, 0, 0, 0, 0, 0], [0, 0, 0, 0, 0], [0], [0, 0, 0], [0, 0], [0], [0, 0], [0, 0], [0, 0], [0], [0, 0, 0, 0], [0], [0, 0, 2, 0], [0, 0, 0], [0], [0, 0], [0, 0, 0, 0, 0, 0], [0, 0, 0, 0, 0, 0], [0, 0, 0, 0, 0, 0, 1, 0, 0, 0, 3, 0, 0], [0, 0], [0], [0, 0], [0, 0], [0, 0]], [([0, 2], []), ([], []), ([], []), ([14], []), ([3], []), ([], []), ([18], []), ([], []), ([], []), ([19], []), ([4, 5, 19], []), ([], []), ([23], []), ([6], []), ([1, 12, 13, 15, 16, 17, 20, 21, 22, 24], [(true, 0)]), ([24], []), ([20, 21, 22, 23], []), ([15, 16, 17, 18], []), ([12, 13, 14], []), ([], []), ([], []), ([28], []), ([], []), ([], []), ([31], []), ([], []), ([], []), ([9, 10, 32], [(true, 2)]), ([11], []), ([1, 8, 25, 26, 27, 29, 30, 33], [(true, 0), (true, 1)]), ([9, 10, 32, 33], []), ([8, 29, 30, 31], [(true, 1)]), ([1, 7, 25, 26, 27, 28], [(true, 0)])], []⟩
def ir_cand_look_tagsl0 : C :=
 .seq (.reg [⟨.bin .lss (.s 22) (.s 21), none⟩] [] [] [(23, 0, none)])
 (.seq (.cond (.s 23) (.skip)
  (.exit 4))
 (.seq (.block 5 (.seq (.seq (.reg [⟨.iaS 1 (.s 20) (.s 22), none⟩,
    ⟨.load 0 false 1 (.r 0), none⟩,
    ⟨.mv (.r 1), none⟩] [] [] [(6, 2, none)])
  (.drop [23] []))
  (.seq (.seq (.reg [⟨.mv (.s 6), none⟩,
    ⟨.bin .neq (.r 0) (.c (.int .i64 (-1))), none⟩] [] [] [(24, 1, none)])
  (.drop [6] []))
  (.cond (.s 24) (.seq (.seq (.reg [⟨.mv (.c (.bool true)), none⟩] [] [] [(2, 0, none)])
   (.drop [1, 12, 13, 15, 16, 17, 20, 21, 22, 24] [(true, 0)]))
   (.ret))
   (.skip)))))
 (.seq (.reg [⟨.bin .add (.s 22) (.c (.int .i64 1)), none⟩,
   ⟨.mv (.r 0), none⟩] [] [] [(22, 1, none)])
 (.drop [24] []))))
def ir_cand_look_tagsl1 : C :=
 .seq (.reg [⟨.bin .lss (.s 17) (.s 16), none⟩] [] [] [(18, 0, none)])
 (.seq (.cond (.s 18) (.skip)
  (.exit 2))
 (.seq (.block 3 (.seq (.seq (.reg [⟨.iaS 27 (.s 15) (.s 17), none⟩,
    ⟨.load 0 true 27 (.r 0), none⟩,
    ⟨.halloc [.int .u64 0, .int .i64 0, .int .i64 0, .int .i64 0, .int .i64 0, .int .i64 0, .bool false, .bool false, .int .i64 0, .int .i64 0, .int .i64 0, .int .u64 0, .int .u64 0, .int .u64 0, .int .u64 0, .bool false, .int .i64 0, .flt 0, .int .i64 0, .int .i64 0, .int .i64 0, .int .i64 0, .int .i64 0, .int .i64 0, .int .i64 0, .int .i64 0, .int .i64 0], none⟩,
    ⟨.store 0 27 (.r 2) (.r 1), none⟩] [] [] [(4, 2, none)])
  (.drop [18] []))
  (.seq (.reg [⟨.mv (.c (.int .i64 0)), none⟩] [] [] [(5, 0, none)])
  (.seq (.seq (.reg [⟨.load 0 true 27 (.s 4), none⟩,
    ⟨.call .val n_cand_isEvent [(.r 0)], none⟩,
    ⟨.mv (.r 1), none⟩,
    ⟨.off 0 (.s 4), some (2, true)⟩,
    ⟨.off 1 (.r 3), some (2, true)⟩,
    ⟨.off 0 (.r 4), some (2, true)⟩,
    ⟨.load 0 false 1 (.r 5), some (2, true)⟩,
    ⟨.call .val n_ops_Loads [(.r 6)], some (2, true)⟩,
    ⟨.pick (.r 2) (.r 7) (.c (.bool false)), none⟩] [] [] [(19, 8, none)])
  (.cond (.s 19) (.seq (.reg [⟨.off 0 (.s 4), none⟩,
     ⟨.off 1 (.r 0), none⟩,
     ⟨.off 0 (.r 1), none⟩,
     ⟨.load 0 false 1 (.r 2), none⟩,
     ⟨.call .val n_ops_Size [(.r 3)], none⟩,
     ⟨.mv (.r 4), none⟩] [] [] [(5, 5, none)])
   (.drop [19] []))
   (.skip)))
  (.seq (.seq (.reg [⟨.off 18 (.s 4), none⟩,
    ⟨.mv (.s 5), none⟩,
    ⟨.slcA 8 1 (.r 0) (some (.r 1)) none none, none⟩,
    ⟨.len 1 (.r 2), none⟩,
    ⟨.mv (.c (.int .i64 0)), none⟩] [] [] [(20, 2, none), (21, 3, none), (22, 4, none)])
  (.drop [4, 5, 19] []))
  (.block 4 (.loop ir_cand_look_tagsl0)))))))
 (.seq (.reg [⟨.bin .add (.s 17) (.c (.int .i64 1)), none⟩,
   ⟨.mv (.r 0), none⟩] [] [] [(17, 1, none)])
 (.drop [20, 21, 22, 23] []))))
def ir_cand_look_tagsl2 : C :=
 .seq (.reg [⟨.bin .lss (.s 13) (.c (.int .i64 3)), none⟩] [] [] [(14, 0, none)])
 (.seq (.cond (.s 14) (.skip)
  (.exit 0))
 (.seq (.block 1 (.seq (.seq (.reg [⟨.ixA 3 1 false (.s 12) (.s 13), none⟩,
    ⟨.mv (.r 0), none⟩] [] [] [(3, 1, none)])
  (.drop [14] []))
  (.seq (.seq (.reg [⟨.mv (.s 3), none⟩,
    ⟨.len 1 (.r 0), none⟩,
    ⟨.mv (.c (.int .i64 0)), none⟩] [] [] [(15, 0, none), (16, 1, none), (17, 2, none)])
  (.drop [3] []))
  (.block 2 (.loop ir_cand_look_tagsl1)))))
 (.seq (.reg [⟨.bin .add (.s 13) (.c (.int .i64 1)), none⟩,
   ⟨.mv (.r 0), none⟩] [] [] [(13, 1, none)])
 (.drop [15, 16, 17, 18] []))))
def ir_cand_look_tagsl3 : C :=
 .seq (.reg [⟨.bin .lss (.s 30) (.s 29), none⟩] [] [] [(31, 0, none)])
 (.seq (.cond (.s 31) (.skip)
  (.exit 8))
 (.seq (.block 9 (.seq (.seq (.reg [⟨.mv (.s 30), none⟩,
    ⟨.mv (.r 0), none⟩] [] [] [(9, 1, none)])
  (.drop [31] []))
  (.seq (.reg [⟨.mv (.s 9), none⟩,
    ⟨.off 2 (.s 8), none⟩,
    ⟨.off 18 (.r 1), none⟩,
    ⟨.iaA 8 1 (.r 2) (.r 0), none⟩,
    ⟨.load 0 false 1 (.r 3), none⟩,
    ⟨.mv (.r 4), none⟩] [] [] [(10, 5, none)])
  (.seq (.reg [⟨.off 29 (.s 8), none⟩,
    ⟨.load 0 false 1 (.r 0), none⟩,
    ⟨.mv (.r 1), none⟩,
    ⟨.mv (.s 10), some (2, true)⟩,
    ⟨.bin .neq (.r 3) (.c (.int .i64 (-1))), some (2, true)⟩,
    ⟨.pick (.r 2) (.r 4) (.c (.bool false)), none⟩] [] [] [(32, 5, none)])
  (.cond (.s 32) (.seq (.seq (.reg [⟨.load 0 true 7 (.s 1), none⟩,
     ⟨.mv (.s 10), none⟩,
     ⟨.off 31 (.s 8), none⟩,
     ⟨.load 0 false 1 (.r 2), none⟩,
     ⟨.mv (.s 9), none⟩,
     ⟨.bin .add (.r 3) (.r 4), none⟩,
     ⟨.call .heap n_cand_look_writer [(.r 0), (.r 1), (.r 5)], none⟩,
     ⟨.mv (.r 6), none⟩,
     ⟨.ext (.r 7) 0, none⟩,
     ⟨.ext (.r 7) 1, none⟩,
     ⟨.lalloc 2 [.int .i64 0, .int .i64 0, .int .u64 0, .int .i64 0, .int .i64 0, .int .i64 0, .int .i64 0, .int .i64 0, .bool false, .bool false, .int .i64 0, .int .i64 0, .int .i64 0, .int .u64 0, .int .u64 0, .int .u64 0, .int .u64 0, .bool false, .int .i64 0, .flt 0, .int .i64 0, .int .i64 0, .int .i64 0, .int .i64 0, .int .i64 0, .int .i64 0, .int .i64 0, .int .i64 0, .int .i64 0, .bool false, .bool false, .int .i64 0, .int .i64 0], none⟩,
     ⟨.store 0 33 (.r 10) (.r 8), none⟩,
     ⟨.mv (.r 9), none⟩] [(true, 2)] [] [(11, 12, none)])
   (.drop [9, 10, 32] [(true, 2)]))
   (.seq (.seq (.reg [⟨.mv (.s 11), none⟩,
     ⟨.un .not (.r 0), none⟩] [] [] [(33, 1, none)])
   (.drop [11] []))
   (.cond (.s 33) (.seq (.seq (.reg [⟨.mv (.c (.bool true)), none⟩] [] [] [(7, 0, none)])
    (.drop [1, 8, 25, 26, 27, 29, 30, 33] [(true, 0), (true, 1)]))
    (.exit 6))
    (.skip))))
   (.skip))))))
 (.seq (.reg [⟨.bin .add (.s 30) (.c (.int .i64 1)), none⟩,
   ⟨.mv (.r 0), none⟩] [] [] [(30, 1, none)])
 (.drop [9, 10, 32, 33] []))))
def ir_cand_look_tagsl4 : C :=
 .seq (.reg [⟨.bin .lss (.s 27) (.s 26), none⟩] [] [] [(28, 0, none)])
 (.seq (.cond (.s 28) (.skip)
  (.exit 6))
 (.seq (.block 7 (.seq (.seq (.reg [⟨.iaS 33 (.s 25) (.s 27), none⟩,
    ⟨.load 0 true 33 (.r 0), none⟩,
    ⟨.lalloc 1 [.int .i64 0, .int .i64 0, .int .u64 0, .int .i64 0, .int .i64 0, .int .i64 0, .int .i64 0, .int .i64 0, .bool false, .bool false, .int .i64 0, .int .i64 0, .int .i64 0, .int .u64 0, .int .u64 0, .int .u64 0, .int .u64 0, .bool false, .int .i64 0, .flt 0, .int .i64 0, .int .i64 0, .int .i64 0, .int .i64 0, .int .i64 0, .int .i64 0, .int .i64 0, .int .i64 0, .int .i64 0, .bool false, .bool false, .int .i64 0, .int .i64 0], none⟩,
    ⟨.store 0 33 (.r 2) (.r 1), none⟩] [(true, 1)] [] [(8, 2, some 3)])
  (.drop [28] []))
  (.seq (.reg [⟨.off 32 (.s 8), none⟩,
    ⟨.load 0 false 1 (.r 0), none⟩,
    ⟨.mv (.c (.int .i64 0)), none⟩] [] [] [(29, 1, none), (30, 2, none)])
  (.block 8 (.loop ir_cand_look_tagsl3)))))
 (.seq (.reg [⟨.bin .add (.s 27) (.c (.int .i64 1)), none⟩,
   ⟨.mv (.r 0), none⟩] [] [] [(27, 1, none)])
 (.drop [8, 29, 30, 31] [(true, 1)]))))
def ir_cand_look_tags : Vm.Fn := ⟨[0, 1, 2, 4, 6, 7, 9, 10, 12, 13, 14, 16, 19, 20, 21, 23, 24, 25, 26, 37, 45, 46, 47, 48, 52, 57, 58, 59, 60, 64, 65, 66, 78, 90], 3, 0, [.slot 2],
 .seq (.seq (.reg [⟨.lbox 0 7 (.s 0), none⟩,
   ⟨.mv (.c (.bool false)), none⟩] [(true, 0)] [] [(1, 0, some 1), (2, 1, none)])
 (.drop [0, 2] []))
 (.seq (.seq (.reg [⟨.off 0 (.s 1), none⟩,
   ⟨.off 1 (.r 0), none⟩,
   ⟨.load 0 true 3 (.r 1), none⟩,
   ⟨.mv (.c (.int .i64 0)), none⟩] [] [] [(12, 2, none), (13, 3, none)])
 (.block 0 (.loop ir_cand_look_tagsl2)))
 (.seq (.seq (.reg [⟨.mv (.c (.bool false)), none⟩] [] [] [(7, 0, none)])
 (.drop [12, 13, 14] []))
 (.seq (.seq (.reg [⟨.off 5 (.s 1), none⟩,
   ⟨.load 0 false 1 (.r 0), none⟩,
   ⟨.len 1 (.r 1), none⟩,
   ⟨.mv (.c (.int .i64 0)), none⟩] [] [] [(25, 1, none), (26, 2, none), (27, 3, none)])
 (.block 6 (.loop ir_cand_look_tagsl4)))
 (.seq (.seq (.reg [⟨.mv (.s 7), none⟩,
   ⟨.mv (.r 0), none⟩] [] [] [(2, 1, none)])
 (.drop [1, 7, 25, 26, 27, 28] [(true, 0)]))
 (.ret)))))⟩
/-- 39: (undertow/cand.look).bytes -/
def h39 : Vm.Hint := ⟨[0, 1, 2, 4, 5, 6, 7, 8, 9, 12, 13, 14, 15, 20, 33, 40, 41, 42, 43, 62, 84], [1, 4, 9], [], [[1, 0], [0, 0, 0, 0], [0], [0, 0, 2, 0], [0, 0, 0], [0, 0, 0, 0, 0, 0, 0, 0, 0, 0, 0, 0, 0], [0], [0, 0, 0, 0, 0, 0, 0, 0, 0], [0], [0, 0, 0, 0, 0], [0, 0, 0, 0, 0, 0, 0, 0, 0, 0], [0, 0, 0, 0, 0, 0], [0, 0], [0, 0, 0, 0, 0, 0, 1, 0, 0, 0, 3, 0, 0], [0, 0, 0, 0, 0, 0, 0, 0, 0, 0], [0, 0, 0], [0], [0, 0], [0, 0], [0]], [([0, 2], []), ([], []), ([], []), ([12], []), ([], []), ([13], []), ([1, 3, 9, 10, 11, 14], [(true, 0), (true, 1)]), ([14], []), ([], []), ([18], []), ([], []), ([], []), ([], []), ([6, 7, 19], []), ([4, 8], [(true, 2)]), ([4, 5, 6, 7, 19], []), ([1, 3, 9, 10, 11, 15, 16, 17, 20], [(true, 0), (true, 1)]), ([20], []), ([3, 13, 15, 16, 17, 18], [(true, 1)]), ([1, 9, 10, 11, 12], [(true, 0)])], []⟩
def ir_cand_look_bytesl0 : C :=
 .seq (.reg [⟨.bin .lss (.s 17) (.s 16), none⟩] [] [] [(18, 0, none)])
 (.seq (.cond (.s 18) (.skip)
  (.exit 2))
 (.seq (.block 3 (.seq (.seq (.reg [⟨.mv (.s 17), none⟩,
    ⟨.iaS 1 (.s 15) (.s 17), none⟩,
    ⟨.load 0 false 1 (.r 1), none⟩,
    ⟨.mv (.r 0), none⟩,
    ⟨.mv (.r 2), none⟩] [] [] [(4, 3, none), (5, 4, none)])
  (.drop [18] []))
  (.seq (.reg [⟨.off 0 (.s 1), none⟩,
    ⟨.off 0 (.r 0), none⟩,
    ⟨.load 0 false 1 (.r 1), none⟩,
    ⟨.off 31 (.s 3), none⟩,
    ⟨.load 0 false 1 (.r 3), none⟩,
    ⟨.mv (.s 4), none⟩,
    ⟨.bin .add (.r 4) (.r 5), none⟩,
    ⟨.iaS 1 (.r 2) (.r 6), none⟩,
    ⟨.load 0 false 1 (.r 7), none⟩,
    ⟨.mv (.r 8), none⟩] [] [] [(6, 9, none)])
  (.seq (.seq (.reg [⟨.mv (.s 4), none⟩,
    ⟨.off 2 (.s 3), none⟩,
    ⟨.off 18 (.r 1), none⟩,
    ⟨.iaA 8 1 (.r 2) (.r 0), none⟩,
    ⟨.load 0 false 1 (.r 3), none⟩,
    ⟨.mv (.r 4), none⟩] [] [] [(7, 5, none)])
  (.seq (.reg [⟨.mv (.s 7), none⟩,
    ⟨.bin .neq (.r 0) (.c (.int .i64 (-1))), none⟩] [] [] [(19, 1, none)])
  (.cond (.s 19) (.seq (.seq (.reg [⟨.load 0 true 7 (.s 1), none⟩,
     ⟨.mv (.s 7), none⟩,
     ⟨.off 31 (.s 3), none⟩,
     ⟨.load 0 false 1 (.r 2), none⟩,
     ⟨.mv (.s 4), none⟩,
     ⟨.bin .add (.r 3) (.r 4), none⟩,
     ⟨.call .heap n_cand_look_writer [(.r 0), (.r 1), (.r 5)], none⟩,
     ⟨.mv (.r 6), none⟩,
     ⟨.ext (.r 7) 0, none⟩,
     ⟨.ext (.r 7) 1, none⟩,
     ⟨.lalloc 2 [.int .i64 0, .int .i64 0, .int .u64 0, .int .i64 0, .int .i64 0, .int .i64 0, .int .i64 0, .int .i64 0, .bool false, .bool false, .int .i64 0, .int .i64 0, .int .i64 0, .int .u64 0, .int .u64 0, .int .u64 0, .int .u64 0, .bool false, .int .i64 0, .flt 0, .int .i64 0, .int .i64 0, .int .i64 0, .int .i64 0, .int .i64 0, .int .i64 0, .int .i64 0, .int .i64 0, .int .i64 0, .bool false, .bool false, .int .i64 0, .int .i64 0], none⟩,
     ⟨.store 0 33 (.r 10) (.r 8), none⟩,
     ⟨.mv (.r 9), none⟩] [(true, 2)] [] [(8, 10, some 5)])
   (.drop [6, 7, 19] []))
   (.seq (.reg [⟨.load 0 true 33 (.s 8), none⟩,
     ⟨.off 31 (.s 3), none⟩,
     ⟨.load 0 false 1 (.r 1), none⟩,
     ⟨.mv (.s 4), none⟩,
     ⟨.bin .add (.r 2) (.r 3), none⟩,
     ⟨.call .val n_cand_Byte [(.r 0), (.r 4)], none⟩,
     ⟨.mv (.r 5), none⟩,
     ⟨.ext (.r 6) 0, none⟩,
     ⟨.ext (.r 6) 1, none⟩,
     ⟨.mv (.r 7), none⟩] [] [] [(6, 9, none)])
   (.drop [4, 8] [(true, 2)])))
   (.skip))))
  (.seq (.seq (.reg [⟨.mv (.s 5), none⟩,
    ⟨.mv (.s 6), none⟩,
    ⟨.bin .neq (.r 0) (.r 1), none⟩] [] [] [(20, 2, none)])
  (.drop [4, 5, 6, 7, 19] []))
  (.cond (.s 20) (.seq (.seq (.reg [⟨.mv (.c (.bool true)), none⟩] [] [] [(2, 0, none)])
   (.drop [1, 3, 9, 10, 11, 15, 16, 17, 20] [(true, 0), (true, 1)]))
   (.ret))
   (.skip)))))))
 (.seq (.reg [⟨.bin .add (.s 17) (.c (.int .i64 1)), none⟩,
   ⟨.mv (.r 0), none⟩] [] [] [(17, 1, none)])
 (.drop [20] []))))
def ir_cand_look_bytesl1 : C :=
 .seq (.reg [⟨.bin .lss (.s 11) (.s 10), none⟩] [] [] [(12, 0, none)])
 (.seq (.cond (.s 12) (.skip)
  (.exit 0))
 (.seq (.block 1 (.seq (.seq (.reg [⟨.iaS 33 (.s 9) (.s 11), none⟩,
    ⟨.load 0 true 33 (.r 0), none⟩,
    ⟨.lalloc 1 [.int .i64 0, .int .i64 0, .int .u64 0, .int .i64 0, .int .i64 0, .int .i64 0, .int .i64 0, .int .i64 0, .bool false, .bool false, .int .i64 0, .int .i64 0, .int .i64 0, .int .u64 0, .int .u64 0, .int .u64 0, .int .u64 0, .bool false, .int .i64 0, .flt 0, .int .i64 0, .int .i64 0, .int .i64 0, .int .i64 0, .int .i64 0, .int .i64 0, .int .i64 0, .int .i64 0, .int .i64 0, .bool false, .bool false, .int .i64 0, .int .i64 0], none⟩,
    ⟨.store 0 33 (.r 2) (.r 1), none⟩] [(true, 1)] [] [(3, 2, some 3)])
  (.drop [12] []))
  (.seq (.seq (.reg [⟨.off 29 (.s 3), none⟩,
    ⟨.load 0 false 1 (.r 0), none⟩,
    ⟨.un .not (.r 1), none⟩] [] [] [(13, 2, none)])
  (.cond (.s 13) (.exit 1)
   (.skip)))
  (.seq (.seq (.seq (.reg [⟨.off 2 (.s 3), none⟩,
    ⟨.off 0 (.r 0), none⟩,
    ⟨.off 13 (.r 1), none⟩,
    ⟨.load 0 false 1 (.r 2), none⟩,
    ⟨.off 32 (.s 3), none⟩,
    ⟨.load 0 false 1 (.r 4), none⟩,
    ⟨.bin .mul (.c (.int .i64 8)) (.r 5), none⟩,
    ⟨.call .val n_word_Zext [(.r 3), (.r 6)], none⟩,
    ⟨.off 2 (.s 3), none⟩,
    ⟨.off 0 (.r 8), none⟩,
    ⟨.off 13 (.r 9), none⟩,
    ⟨.load 0 false 1 (.r 10), none⟩,
    ⟨.bin .neq (.r 7) (.r 11), none⟩] [] [(3, 5), (3, 11), (5, 11), (7, 11)] [(14, 12, none)])
  (.drop [13] []))
  (.cond (.s 14) (.seq (.seq (.reg [⟨.mv (.c (.bool true)), none⟩] [] [] [(2, 0, none)])
   (.drop [1, 3, 9, 10, 11, 14] [(true, 0), (true, 1)]))
   (.ret))
   (.skip)))
  (.seq (.seq (.reg [⟨.off 2 (.s 3), none⟩,
    ⟨.off 0 (.r 0), none⟩,
    ⟨.off 13 (.r 1), none⟩,
    ⟨.load 0 false 1 (.r 2), none⟩,
    ⟨.off 32 (.s 3), none⟩,
    ⟨.load 0 false 1 (.r 4), none⟩,
    ⟨.call .val n_word_Bytes [(.r 3), (.r 5)], none⟩,
    ⟨.len 1 (.r 6), none⟩,
    ⟨.mv (.c (.int .i64 0)), none⟩] [] [] [(15, 6, none), (16, 7, none), (17, 8, none)])
  (.drop [14] []))
  (.block 2 (.loop ir_cand_look_bytesl0)))))))
 (.seq (.reg [⟨.bin .add (.s 11) (.c (.int .i64 1)), none⟩,
   ⟨.mv (.r 0), none⟩] [] [] [(11, 1, none)])
 (.drop [3, 13, 15, 16, 17, 18] [(true, 1)]))))
def ir_cand_look_bytes : Vm.Fn := ⟨[0, 1, 2, 4, 5, 6, 7, 8, 9, 12, 13, 14, 15, 20, 33, 40, 41, 42, 43, 62, 84], 3, 0, [.slot 2],
 .seq (.seq (.reg [⟨.lbox 0 7 (.s 0), none⟩,
   ⟨.mv (.c (.bool false)), none⟩] [(true, 0)] [] [(1, 0, some 1), (2, 1, none)])
 (.drop [0, 2] []))
 (.seq (.seq (.reg [⟨.off 5 (.s 1), none⟩,
   ⟨.load 0 false 1 (.r 0), none⟩,
   ⟨.len 1 (.r 1), none⟩,
   ⟨.mv (.c (.int .i64 0)), none⟩] [] [] [(9, 1, none), (10, 2, none), (11, 3, none)])
 (.block 0 (.loop ir_cand_look_bytesl1)))
 (.seq (.seq (.reg [⟨.mv (.c (.bool false)), none⟩] [] [] [(2, 0, none)])
 (.drop [1, 9, 10, 11, 12] [(true, 0)]))
 (.ret)))⟩
/-- 40: (undertow/cand.look).orders -/
def h40 : Vm.Hint := ⟨[0, 1, 2, 3, 4, 5, 7, 9, 11, 14, 15, 16, 17, 23, 24, 25, 26, 35, 41, 42, 43, 44, 50, 56], [1, 7], [], [[1, 0], [0, 0, 0, 0, 0], [0], [0, 0, 0, 0, 0], [0, 0], [0, 0, 0, 0], [0], [0, 0, 2, 0], [0, 0, 0, 0, 0, 0, 0, 0], [0], [0, 0, 0, 0, 0], [0, 0], [0, 0, 0], [0], [0, 0, 0], [0, 0, 0, 0], [0], [0, 0, 0], [0, 0], [0, 0, 0], [0], [0, 0], [0]], [([0, 2], []), ([], []), ([], []), ([12], []), ([], []), ([], []), ([], []), ([16], []), ([], []), ([7], []), ([6, 17], [(true, 1)]), ([6, 17], [(true, 1)]), ([3, 4, 13, 14, 15, 16], []), ([], []), ([21], []), ([], []), ([1, 5, 8, 9, 10, 11, 18, 19, 20, 22], [(true, 0)]), ([8, 22], []), ([], []), ([5, 18, 19, 20, 21], []), ([1, 9, 10, 11, 23], [(true, 0)]), ([23], []), ([1, 9, 10, 11, 12], [(true, 0)])], []⟩
def ir_cand_look_ordersl0 : C :=
 .seq (.reg [⟨.bin .lss (.s 15) (.s 14), none⟩] [] [] [(16, 0, none)])
 (.seq (.cond (.s 16) (.skip)
  (.exit 2))
 (.seq (.block 3 (.seq (.seq (.reg [⟨.iaS 33 (.s 13) (.s 15), none⟩,
    ⟨.load 0 true 33 (.r 0), none⟩,
    ⟨.lalloc 1 [.int .i64 0, .int .i64 0, .int .u64 0, .int .i64 0, .int .i64 0, .int .i64 0, .int .i64 0, .int .i64 0, .bool false, .bool false, .int .i64 0, .int .i64 0, .int .i64 0, .int .u64 0, .int .u64 0, .int .u64 0, .int .u64 0, .bool false, .int .i64 0, .flt 0, .int .i64 0, .int .i64 0, .int .i64 0, .int .i64 0, .int .i64 0, .int .i64 0, .int .i64 0, .int .i64 0, .int .i64 0, .bool false, .bool false, .int .i64 0, .int .i64 0], none⟩,
    ⟨.store 0 33 (.r 2) (.r 1), none⟩] [(true, 1)] [] [(6, 2, some 3)])
  (.drop [16] []))
  (.seq (.reg [⟨.load 0 true 33 (.s 6), none⟩,
    ⟨.mv (.s 3), none⟩,
    ⟨.call .val n_cand_Byte [(.r 0), (.r 1)], none⟩,
    ⟨.mv (.r 2), none⟩,
    ⟨.ext (.r 3) 0, none⟩,
    ⟨.ext (.r 3) 1, none⟩,
    ⟨.mv (.r 4), none⟩,
    ⟨.mv (.r 5), none⟩] [] [] [(7, 7, none)])
  (.seq (.seq (.reg [⟨.mv (.s 7), none⟩] [] [] [(17, 0, none)])
  (.drop [7] []))
  (.cond (.s 17) (.seq (.reg [⟨.mv (.s 5), none⟩,
     ⟨.off 2 (.s 6), none⟩,
     ⟨.off 16 (.r 1), none⟩,
     ⟨.load 0 false 1 (.r 2), none⟩,
     ⟨.mput (.r 0) (.r 3) (.c (.bool true)), none⟩] [] [] [])
   (.drop [6, 17] [(true, 1)]))
   (.skip))))))
 (.seq (.reg [⟨.bin .add (.s 15) (.c (.int .i64 1)), none⟩,
   ⟨.mv (.r 0), none⟩] [] [] [(15, 1, none)])
 (.drop [6, 17] [(true, 1)]))))
def ir_cand_look_ordersl1 : C :=
 .seq (.reg [⟨.bin .lss (.s 20) (.s 19), none⟩] [] [] [(21, 0, none)])
 (.seq (.cond (.s 21) (.skip)
  (.exit 4))
 (.seq (.block 5 (.seq (.seq (.reg [⟨.iaS 1 (.s 18) (.s 20), none⟩,
    ⟨.load 0 false 1 (.r 0), none⟩,
    ⟨.mv (.r 1), none⟩] [] [] [(8, 2, none)])
  (.drop [21] []))
  (.seq (.seq (.reg [⟨.mv (.s 5), none⟩,
    ⟨.mv (.s 8), none⟩,
    ⟨.look false false [.bool false] (.r 0) (.r 1), none⟩,
    ⟨.un .not (.r 2), none⟩] [] [] [(22, 3, none)])
  (.cond (.s 22) (.seq (.seq (.reg [⟨.mv (.c (.bool true)), none⟩] [] [] [(2, 0, none)])
   (.drop [1, 5, 8, 9, 10, 11, 18, 19, 20, 22] [(true, 0)]))
   (.ret))
   (.skip)))
  (.seq (.reg [⟨.mv (.s 5), none⟩,
    ⟨.mv (.s 8), none⟩,
    ⟨.mdel (.r 0) (.r 1), none⟩] [] [] [])
  (.drop [8, 22] [])))))
 (.reg [⟨.bin .add (.s 20) (.c (.int .i64 1)), none⟩,
   ⟨.mv (.r 0), none⟩] [] [] [(20, 1, none)])))
def ir_cand_look_ordersl2 : C :=
 .seq (.reg [⟨.bin .lss (.s 11) (.s 10), none⟩] [] [] [(12, 0, none)])
 (.seq (.cond (.s 12) (.skip)
  (.exit 0))
 (.seq (.block 1 (.seq (.seq (.reg [⟨.mv (.s 11), none⟩,
    ⟨.iaS 1 (.s 9) (.s 11), none⟩,
    ⟨.load 0 false 1 (.r 1), none⟩,
    ⟨.mv (.r 0), none⟩,
    ⟨.mv (.r 2), none⟩] [] [] [(3, 3, none), (4, 4, none)])
  (.drop [12] []))
  (.seq (.reg [⟨.mkmap, none⟩,
    ⟨.mv (.r 0), none⟩] [] [] [(5, 1, none)])
  (.seq (.seq (.reg [⟨.off 5 (.s 1), none⟩,
    ⟨.load 0 false 1 (.r 0), none⟩,
    ⟨.len 1 (.r 1), none⟩,
    ⟨.mv (.c (.int .i64 0)), none⟩] [] [] [(13, 1, none), (14, 2, none), (15, 3, none)])
  (.block 2 (.loop ir_cand_look_ordersl0)))
  (.seq (.seq (.seq (.reg [⟨.mv (.s 4), none⟩,
    ⟨.len 1 (.r 0), none⟩,
    ⟨.mv (.c (.int .i64 0)), none⟩] [] [] [(18, 0, none), (19, 1, none), (20, 2, none)])
  (.drop [3, 4, 13, 14, 15, 16] []))
  (.block 4 (.loop ir_cand_look_ordersl1)))
  (.seq (.seq (.reg [⟨.mv (.s 5), none⟩,
    ⟨.len 2 (.r 0), none⟩,
    ⟨.bin .gtr (.r 1) (.c (.int .i64 0)), none⟩] [] [] [(23, 2, none)])
  (.drop [5, 18, 19, 20, 21] []))
  (.cond (.s 23) (.seq (.seq (.reg [⟨.mv (.c (.bool true)), none⟩] [] [] [(2, 0, none)])
   (.drop [1, 9, 10, 11, 23] [(true, 0)]))
   (.ret))
   (.skip))))))))
 (.seq (.reg [⟨.bin .add (.s 11) (.c (.int .i64 1)), none⟩,
   ⟨.mv (.r 0), none⟩] [] [] [(11, 1, none)])
 (.drop [23] []))))
def ir_cand_look_orders : Vm.Fn := ⟨[0, 1, 2, 3, 4, 5, 7, 9, 11, 14, 15, 16, 17, 23, 24, 25, 26, 35, 41, 42, 43, 44, 50, 56], 2, 0, [.slot 2],
 .seq (.seq (.reg [⟨.lbox 0 7 (.s 0), none⟩,
   ⟨.mv (.c (.bool false)), none⟩] [(true, 0)] [] [(1, 0, some 1), (2, 1, none)])
 (.drop [0, 2] []))
 (.seq (.seq (.reg [⟨.off 0 (.s 1), none⟩,
   ⟨.off 4 (.r 0), none⟩,
   ⟨.load 0 false 1 (.r 1), none⟩,
   ⟨.len 1 (.r 2), none⟩,
   ⟨.mv (.c (.int .i64 0)), none⟩] [] [] [(9, 2, none), (10, 3, none), (11, 4, none)])
 (.block 0 (.loop ir_cand_look_ordersl2)))
 (.seq (.seq (.reg [⟨.mv (.c (.bool false)), none⟩] [] [] [(2, 0, none)])
 (.drop [1, 9, 10, 11, 12] [(true, 0)]))
 (.ret)))⟩
/-- 41: (undertow/cand.look).pairs -/
def h41 : Vm.Hint := ⟨[0, 1, 2, 4, 5, 6, 7, 8, 9, 12, 13, 14, 16, 17, 18, 19, 33, 63, 72, 73, 81], [1, 7], [], [[1, 0], [0, 0, 0, 0], [0], [0, 0], [0], [0, 0, 0], [0], [0, 0, 0, 2, 0, 0], [0, 0, 0, 0, 0, 0], [0], [0, 0, 0, 0, 0, 0], [0, 0, 0, 0, 0, 0, 0, 0, 0, 0, 0, 0, 0, 0, 0, 0, 0, 0, 0, 0, 0, 0, 0, 0, 0, 0, 0, 0, 0, 0], [0], [0, 0, 0, 0, 0, 0], [0, 0, 0, 0], [0], [0, 0, 0, 0, 0, 0, 0], [0, 0], [0, 0, 0], [0, 0, 0], [0], [0, 0], [0, 0], [0]], [([0, 2], []), ([1], [(true, 0)]), ([], []), ([11], []), ([], []), ([], []), ([], []), ([15], []), ([], []), ([], []), ([], []), ([8, 16], []), ([3, 4, 5, 6, 7, 9, 10, 12, 13, 14, 17], [(true, 1)]), ([17], []), ([8, 16], []), ([3, 4, 5, 6, 7, 9, 10, 12, 13, 14, 18], [(true, 1)]), ([6, 18], [(true, 1)]), ([5, 7, 19], []), ([5, 19], []), ([7], []), ([7, 20], []), ([7, 20], []), ([3, 4, 12, 13, 14, 15], []), ([9, 10, 11], [])], []⟩
def ir_cand_look_pairsl0 : C :=
 .seq (.reg [⟨.bin .lss (.s 14) (.s 13), none⟩] [] [] [(15, 0, none)])
 (.seq (.cond (.s 15) (.skip)
  (.exit 2))
 (.seq (.block 3 (.seq (.seq (.reg [⟨.mv (.s 14), none⟩,
    ⟨.iaS 27 (.s 12) (.s 14), none⟩,
    ⟨.load 0 true 27 (.r 1), none⟩,
    ⟨.lalloc 1 [.int .u64 0, .int .i64 0, .int .i64 0, .int .i64 0, .int .i64 0, .int .i64 0, .bool false, .bool false, .int .i64 0, .int .i64 0, .int .i64 0, .int .u64 0, .int .u64 0, .int .u64 0, .int .u64 0, .bool false, .int .i64 0, .flt 0, .int .i64 0, .int .i64 0, .int .i64 0, .int .i64 0, .int .i64 0, .int .i64 0, .int .i64 0, .int .i64 0, .int .i64 0], none⟩,
    ⟨.mv (.r 0), none⟩,
    ⟨.store 0 27 (.r 3) (.r 2), none⟩] [(true, 1)] [] [(5, 4, none), (6, 3, some 3)])
  (.drop [15] []))
  (.seq (.reg [⟨.off 0 (.s 6), none⟩,
    ⟨.off 1 (.r 0), none⟩,
    ⟨.off 0 (.r 1), none⟩,
    ⟨.load 0 false 1 (.r 2), none⟩,
    ⟨.call .val n_ops_Sort [(.r 3)], none⟩,
    ⟨.mv (.r 4), none⟩] [] [] [(7, 5, none)])
  (.seq (.reg [⟨.mv (.c (.int .i64 (-1))), none⟩] [] [] [(8, 0, none)])
  (.seq (.seq (.reg [⟨.mv (.s 7), none⟩,
    ⟨.bin .eql (.r 0) (.c (.int .i64 11)), none⟩,
    ⟨.mv (.r 1), none⟩,
    ⟨.load 0 true 27 (.s 6), some (2, true)⟩,
    ⟨.call .val n_cand_isEvent [(.r 3)], some (2, true)⟩,
    ⟨.pick (.r 2) (.r 4) (.c (.bool false)), none⟩] [] [] [(16, 5, none)])
  (.cond (.s 16) (.seq (.seq (.seq (.reg [⟨.mv (.s 4), none⟩,
     ⟨.bin .lss (.r 0) (.c (.int .i64 0)), none⟩,
     ⟨.mv (.r 1), none⟩,
     ⟨.mv (.s 3), some (2, false)⟩,
     ⟨.mv (.s 4), some (2, false)⟩,
     ⟨.iaS 27 (.r 3) (.r 4), some (2, false)⟩,
     ⟨.off 0 (.r 5), some (2, false)⟩,
     ⟨.off 12 (.r 6), some (2, false)⟩,
     ⟨.load 0 false 1 (.r 7), some (2, false)⟩,
     ⟨.off 0 (.s 6), some (2, false)⟩,
     ⟨.off 12 (.r 9), some (2, false)⟩,
     ⟨.load 0 false 1 (.r 10), some (2, false)⟩,
     ⟨.bin .neq (.r 8) (.r 11), some (2, false)⟩,
     ⟨.pick (.r 2) (.c (.bool true)) (.r 12), none⟩,
     ⟨.mv (.r 13), none⟩,
     ⟨.mv (.s 3), some (14, false)⟩,
     ⟨.mv (.s 4), some (14, false)⟩,
     ⟨.iaS 27 (.r 15) (.r 16), some (14, false)⟩,
     ⟨.off 0 (.r 17), some (14, false)⟩,
     ⟨.off 1 (.r 18), some (14, false)⟩,
     ⟨.off 0 (.r 19), some (14, false)⟩,
     ⟨.load 0 false 1 (.r 20), some (14, false)⟩,
     ⟨.call .val n_ops_Size [(.r 21)], some (14, false)⟩,
     ⟨.off 0 (.s 6), some (14, false)⟩,
     ⟨.off 1 (.r 23), some (14, false)⟩,
     ⟨.off 0 (.r 24), some (14, false)⟩,
     ⟨.load 0 false 1 (.r 25), some (14, false)⟩,
     ⟨.call .val n_ops_Size [(.r 26)], some (14, false)⟩,
     ⟨.bin .neq (.r 22) (.r 27), some (14, false)⟩,
     ⟨.pick (.r 14) (.c (.bool true)) (.r 28), none⟩] [] [(5, 11), (8, 11), (17, 26), (21, 26), (22, 26)] [(17, 29, none)])
   (.drop [8, 16] []))
   (.cond (.s 17) (.seq (.seq (.reg [⟨.mv (.c (.bool true)), none⟩] [] [] [(2, 0, none)])
    (.drop [3, 4, 5, 6, 7, 9, 10, 12, 13, 14, 17] [(true, 1)]))
    (.ret))
    (.skip)))
   (.seq (.reg [⟨.mv (.s 3), none⟩,
     ⟨.mv (.s 4), none⟩,
     ⟨.iaS 27 (.r 0) (.r 1), none⟩,
     ⟨.off 16 (.r 2), none⟩,
     ⟨.load 0 false 1 (.r 3), none⟩,
     ⟨.mv (.r 4), none⟩] [] [] [(8, 5, none)])
   (.drop [17] [])))
   (.skip)))
  (.seq (.seq (.seq (.reg [⟨.off 26 (.s 6), none⟩,
    ⟨.load 0 false 1 (.r 0), none⟩,
    ⟨.mv (.s 8), none⟩,
    ⟨.bin .neq (.r 1) (.r 2), none⟩] [] [] [(18, 3, none)])
  (.drop [8, 16] []))
  (.cond (.s 18) (.seq (.seq (.reg [⟨.mv (.c (.bool true)), none⟩] [] [] [(2, 0, none)])
   (.drop [3, 4, 5, 6, 7, 9, 10, 12, 13, 14, 18] [(true, 1)]))
   (.ret))
   (.skip)))
  (.block 4 (.seq (.seq (.reg [⟨.mv (.s 7), none⟩,
     ⟨.bin .eql (.r 0) (.c (.int .i64 10)), none⟩,
     ⟨.mv (.r 1), none⟩,
     ⟨.load 0 true 27 (.s 6), some (2, true)⟩,
     ⟨.call .val n_cand_isEvent [(.r 3)], some (2, true)⟩,
     ⟨.pick (.r 2) (.r 4) (.c (.bool false)), none⟩,
     ⟨.mv (.r 5), none⟩] [] [] [(19, 6, none)])
   (.drop [6, 18] [(true, 1)]))
   (.cond (.s 19) (.seq (.reg [⟨.mv (.s 5), none⟩,
      ⟨.mv (.r 0), none⟩] [] [] [(4, 1, none)])
    (.drop [5, 7, 19] []))
    (.seq (.seq (.seq (.reg [⟨.mv (.s 7), none⟩,
      ⟨.bin .eql (.r 0) (.c (.int .i64 10)), none⟩,
      ⟨.mv (.r 1), none⟩] [] [] [(20, 2, none)])
    (.drop [5, 19] []))
    (.cond (.s 20) (.skip)
     (.seq (.reg [⟨.mv (.s 7), none⟩,
       ⟨.bin .eql (.r 0) (.c (.int .i64 11)), none⟩,
       ⟨.mv (.r 1), none⟩] [] [] [(20, 2, none)])
     (.drop [7] []))))
    (.cond (.s 20) (.seq (.reg [⟨.mv (.c (.int .i64 (-1))), none⟩] [] [] [(4, 0, none)])
     (.drop [7, 20] []))
     (.skip))))))))))))
 (.seq (.reg [⟨.bin .add (.s 14) (.c (.int .i64 1)), none⟩,
   ⟨.mv (.r 0), none⟩] [] [] [(14, 1, none)])
 (.drop [7, 20] []))))
def ir_cand_look_pairsl1 : C :=
 .seq (.reg [⟨.bin .lss (.s 10) (.c (.int .i64 3)), none⟩] [] [] [(11, 0, none)])
 (.seq (.cond (.s 11) (.skip)
  (.exit 0))
 (.seq (.block 1 (.seq (.seq (.reg [⟨.ixA 3 1 false (.s 9) (.s 10), none⟩,
    ⟨.mv (.r 0), none⟩] [] [] [(3, 1, none)])
  (.drop [11] []))
  (.seq (.reg [⟨.mv (.c (.int .i64 (-1))), none⟩] [] [] [(4, 0, none)])
  (.seq (.reg [⟨.mv (.s 3), none⟩,
    ⟨.len 1 (.r 0), none⟩,
    ⟨.mv (.c (.int .i64 0)), none⟩] [] [] [(12, 0, none), (13, 1, none), (14, 2, none)])
  (.block 2 (.loop ir_cand_look_pairsl0))))))
 (.seq (.reg [⟨.bin .add (.s 10) (.c (.int .i64 1)), none⟩,
   ⟨.mv (.r 0), none⟩] [] [] [(10, 1, none)])
 (.drop [3, 4, 12, 13, 14, 15] []))))
def ir_cand_look_pairs : Vm.Fn := ⟨[0, 1, 2, 4, 5, 6, 7, 8, 9, 12, 13, 14, 16, 17, 18, 19, 33, 63, 72, 73, 81], 2, 0, [.slot 2],
 .seq (.seq (.reg [⟨.lbox 0 7 (.s 0), none⟩,
   ⟨.mv (.c (.bool false)), none⟩] [(true, 0)] [] [(1, 0, some 1), (2, 1, none)])
 (.drop [0, 2] []))
 (.seq (.seq (.seq (.reg [⟨.off 0 (.s 1), none⟩,
   ⟨.off 1 (.r 0), none⟩,
   ⟨.load 0 true 3 (.r 1), none⟩,
   ⟨.mv (.c (.int .i64 0)), none⟩] [] [] [(9, 2, none), (10, 3, none)])
 (.drop [1] [(true, 0)]))
 (.block 0 (.loop ir_cand_look_pairsl1)))
 (.seq (.seq (.reg [⟨.mv (.c (.bool false)), none⟩] [] [] [(2, 0, none)])
 (.drop [9, 10, 11] []))
 (.ret)))⟩
/-- 42: undertow/undertowref05.Names -/
def h42 : Vm.Hint := ⟨[0], [], [], [[0], [0, 0]], [], []⟩
def ir_undertowref05_Names : Vm.Fn := ⟨[0], 0, 0, [.slot 0],
 .seq (.reg [⟨.mv (.c (.nils)), none⟩] [] [] [(0, 0, none)])
 (.seq (.reg [⟨.lit 0 1 [[.str []], [.str []], [.str []], [.str []], [.str []], [.str []], [.str []], [.str []], [.str []], [.str []], [.str []], [.str []], [.str []], [.str []], [.str []], [.str []], [.str []], [.str []], [.str []], [.str []], [.str []], [.str []], [.str []], [.str []], [.str []], [.str []], [.str []], [.str []], [.str []], [.str []], [.str []], [.str []], [.str []], [.str []], [.str []], [.str []], [.str []], [.str []], [.str []], [.str []], [.str []], [.str []], [.str []], [.str []], [.str []], [.str []], [.str []], [.str []], [.str []], [.str []], [.str []], [.str []], [.str []], [.str []], [.str []], [.str []], [.str []], [.str []], [.str []], [.str []], [.str []], [.str []], [.str []], [.str []], [.str []], [.str []], [.str []], [.str []], [.str []], [.str []], [.str []], [.str []], [.str []], [.str []], [.str []]] [(0, (.c (.str [108, 117, 105]))), (1, (.c (.str [97, 117, 105, 112, 99]))), (2, (.c (.str [106, 97, 108]))), (3, (.c (.str [106, 97, 108, 114]))), (4, (.c (.str [98, 101, 113]))), (5, (.c (.str [98, 110, 101]))), (6, (.c (.str [98, 108, 116]))), (7, (.c (.str [98, 103, 101]))), (8, (.c (.str [98, 108, 116, 117]))), (9, (.c (.str [98, 103, 101, 117]))), (10, (.c (.str [108, 98]))), (11, (.c (.str [108, 104]))), (12, (.c (.str [108, 119]))), (13, (.c (.str [108, 100]))), (14, (.c (.str [108, 98, 117]))), (15, (.c (.str [108, 104, 117]))), (16, (.c (.str [108, 119, 117]))), (17, (.c (.str [115, 98]))), (18, (.c (.str [115, 104]))), (19, (.c (.str [115, 119]))), (20, (.c (.str [115, 100]))), (21, (.c (.str [97, 100, 100, 105]))), (22, (.c (.str [115, 108, 116, 105]))), (23, (.c (.str [115, 108, 116, 105, 117]))), (24, (.c (.str [120, 111, 114, 105]))), (25, (.c (.str [111, 114, 105]))), (26, (.c (.str [97, 110, 100, 105]))), (27, (.c (.str [115, 108, 108, 105]))), (28, (.c (.str [115, 114, 108, 105]))), (29, (.c (.str [115, 114, 97, 105]))), (30, (.c (.str [97, 100, 100, 105, 119]))), (31, (.c (.str [115, 108, 108, 105, 119]))), (32, (.c (.str [115, 114, 108, 105, 119]))), (33, (.c (.str [115, 114, 97, 105, 119]))), (34, (.c (.str [97, 100, 100]))), (35, (.c (.str [115, 117, 98]))), (36, (.c (.str [115, 108, 108]))), (37, (.c (.str [115, 108, 116]))), (38, (.c (.str [115, 108, 116, 117]))), (39, (.c (.str [120, 111, 114]))), (40, (.c (.str [115, 114, 108]))), (41, (.c (.str [115, 114, 97]))), (42, (.c (.str [111, 114]))), (43, (.c (.str [97, 110, 100]))), (44, (.c (.str [97, 100, 100, 119]))), (45, (.c (.str [115, 117, 98, 119]))), (46, (.c (.str [115, 108, 108, 119]))), (47, (.c (.str [115, 114, 108, 119]))), (48, (.c (.str [115, 114, 97, 119]))), (49, (.c (.str [102, 101, 110, 99, 101]))), (50, (.c (.str [102, 101, 110, 99, 101, 46, 116, 115, 111]))), (51, (.c (.str [101, 99, 97, 108, 108]))), (52, (.c (.str [101, 98, 114, 101, 97, 107]))), (53, (.c (.str [108, 114, 46, 119]))), (54, (.c (.str [108, 114, 46, 100]))), (55, (.c (.str [115, 99, 46, 119]))), (56, (.c (.str [115, 99, 46, 100]))), (57, (.c (.str [97, 109, 111, 115, 119, 97, 112, 46, 119]))), (58, (.c (.str [97, 109, 111, 97, 100, 100, 46, 119]))), (59, (.c (.str [97, 109, 111, 120, 111, 114, 46, 119]))), (60, (.c (.str [97, 109, 111, 97, 110, 100, 46, 119]))), (61, (.c (.str [97, 109, 111, 111, 114, 46, 119]))), (62, (.c (.str [97, 109, 111, 109, 105, 110, 46, 119]))), (63, (.c (.str [97, 109, 111, 109, 97, 120, 46, 119]))), (64, (.c (.str [97, 109, 111, 109, 105, 110, 117, 46, 119]))), (65, (.c (.str [97, 109, 111, 109, 97, 120, 117, 46, 119]))), (66, (.c (.str [97, 109, 111, 115, 119, 97, 112, 46, 100]))), (67, (.c (.str [97, 109, 111, 97, 100, 100, 46, 100]))), (68, (.c (.str [97, 109, 111, 120, 111, 114, 46, 100]))), (69, (.c (.str [97, 109, 111, 97, 110, 100, 46, 100]))), (70, (.c (.str [97, 109, 111, 111, 114, 46, 100]))), (71, (.c (.str [97, 109, 111, 109, 105, 110, 46, 100]))), (72, (.c (.str [97, 109, 111, 109, 97, 120, 46, 100]))), (73, (.c (.str [97, 109, 111, 109, 105, 110, 117, 46, 100]))), (74, (.c (.str [97, 109, 111, 109, 97, 120, 117, 46, 100])))], none⟩,
   ⟨.mv (.r 0), none⟩] [] [] [(0, 1, none)])
 (.ret))⟩
/-- 43: slices.ContainsFunc[[]undertow/api.Event,undertow/api.Event] -/
def h43 : Vm.Hint := ⟨[0, 1, 4], [], [], [[0], [0, 0, 1, 0, 0]], [([2], []), ([0, 1], [])], []⟩
def ir_slices_ContainsFunc_api_Event_api_Event : Vm.Fn := ⟨[0, 1, 4], 0, 0, [.slot 2],
 .seq (.seq (.reg [⟨.mv (.c (.bool false)), none⟩] [] [] [(2, 0, none)])
 (.drop [2] []))
 (.seq (.seq (.reg [⟨.mv (.s 0), none⟩,
   ⟨.mv (.s 1), none⟩,
   ⟨.call .heap n_slices_IndexFunc_api_Event_api_Event [(.r 0), (.r 1)], none⟩,
   ⟨.bin .geq (.r 2) (.c (.int .i64 0)), none⟩,
   ⟨.mv (.r 3), none⟩] [] [] [(2, 4, none)])
 (.drop [0, 1] []))
 (.ret))⟩
/-- 44: (undertow/cand.look).places$1 -/
def h44 : Vm.Hint := ⟨[0, 1, 2, 3], [2], [], [[1, 0], [0, 0, 0, 0, 0, 0, 0, 0, 0, 0, 0, 0, 0, 0, 0, 0]], [([0, 3], []), ([2], [(true, 0)])], []⟩
def ir_cand_look_places_1 : Vm.Fn := ⟨[0, 1, 2, 3], 1, 0, [.slot 3],
 .seq (.seq (.reg [⟨.lbox 0 33 (.s 0), none⟩,
   ⟨.mv (.c (.bool false)), none⟩] [(true, 0)] [] [(2, 0, some 1), (3, 1, none)])
 (.drop [0, 3] []))
 (.seq (.seq (.reg [⟨.off 2 (.s 2), none⟩,
   ⟨.off 0 (.r 0), none⟩,
   ⟨.off 1 (.r 1), none⟩,
   ⟨.off 0 (.r 2), none⟩,
   ⟨.load 0 false 1 (.r 3), none⟩,
   ⟨.off 2 (.s 2), none⟩,
   ⟨.off 0 (.r 5), none⟩,
   ⟨.off 12 (.r 6), none⟩,
   ⟨.load 0 false 1 (.r 7), none⟩,
   ⟨.off 0 (.s 1), none⟩,
   ⟨.off 0 (.r 9), none⟩,
   ⟨.load 0 false 1 (.r 10), none⟩,
   ⟨.len 1 (.r 11), none⟩,
   ⟨.call .val n_alu_Where [(.r 4), (.r 8), (.r 12)], none⟩,
   ⟨.bin .neq (.r 13) (.c (.int .i64 0)), none⟩,
   ⟨.mv (.r 14), none⟩] [] [] [(3, 15, none)])
 (.drop [2] [(true, 0)]))
 (.ret))⟩
/-- 45: undertow/alu.Where -/
def h45 : Vm.Hint := ⟨[0, 1, 2, 6, 7, 11, 14, 19], [], [], [[0], [0, 0, 0, 0], [0, 0, 0], [0], [0, 0, 0, 0, 0], [0], [0, 0, 0, 0, 0, 0, 0, 0, 0, 0, 0, 0, 0], [0], [0]], [([3], []), ([0], []), ([], []), ([1, 2, 4, 5], []), ([5], []), ([1, 2, 4, 6], []), ([1, 2, 4, 6], []), ([7], []), ([7], [])], []⟩
def ir_alu_Where : Vm.Fn := ⟨[0, 1, 2, 6, 7, 11, 14, 19], 0, 0, [.slot 3],
 .seq (.seq (.reg [⟨.mv (.c (.int .i64 0)), none⟩] [] [] [(3, 0, none)])
 (.drop [3] []))
 (.seq (.seq (.reg [⟨.mv (.s 0), none⟩,
   ⟨.call .val n_ops_Size [(.r 0)], none⟩,
   ⟨.i2i .u64 (.r 1), none⟩,
   ⟨.mv (.r 2), none⟩] [] [] [(4, 3, none)])
 (.drop [0] []))
 (.seq (.block 0 (.seq (.reg [⟨.mv (.s 4), none⟩,
    ⟨.bin .eql (.r 0) (.c (.int .u64 0)), none⟩,
    ⟨.mv (.r 1), none⟩] [] [] [(5, 2, none)])
  (.cond (.s 5) (.seq (.seq (.reg [⟨.mv (.c (.int .i64 0)), none⟩] [] [] [(3, 0, none)])
   (.drop [1, 2, 4, 5] []))
   (.ret))
   (.seq (.seq (.reg [⟨.mv (.s 1), none⟩,
     ⟨.mv (.s 4), none⟩,
     ⟨.bin .rem (.r 0) (.r 1), none⟩,
     ⟨.bin .neq (.r 2) (.c (.int .u64 0)), none⟩,
     ⟨.mv (.r 3), none⟩] [] [] [(6, 4, none)])
   (.drop [5] []))
   (.cond (.s 6) (.seq (.seq (.reg [⟨.mv (.c (.int .i64 4)), none⟩] [] [] [(3, 0, none)])
    (.drop [1, 2, 4, 6] []))
    (.ret))
    (.seq (.seq (.reg [⟨.mv (.s 2), none⟩,
      ⟨.mv (.s 4), none⟩,
      ⟨.i2i .i64 (.r 1), none⟩,
      ⟨.bin .lss (.r 0) (.r 2), none⟩,
      ⟨.mv (.r 3), none⟩,
      ⟨.mv (.s 1), some (4, false)⟩,
      ⟨.mv (.s 2), some (4, false)⟩,
      ⟨.i2i .u64 (.r 6), some (4, false)⟩,
      ⟨.mv (.s 4), some (4, false)⟩,
      ⟨.bin .sub (.r 7) (.r 8), some (4, false)⟩,
      ⟨.bin .gtr (.r 5) (.r 9), some (4, false)⟩,
      ⟨.pick (.r 4) (.c (.bool true)) (.r 10), none⟩,
      ⟨.mv (.r 11), none⟩] [] [] [(7, 12, none)])
    (.drop [1, 2, 4, 6] []))
    (.cond (.s 7) (.seq (.seq (.reg [⟨.mv (.c (.int .i64 3)), none⟩] [] [] [(3, 0, none)])
     (.drop [7] []))
     (.ret))
     (.skip))))))))
 (.seq (.seq (.reg [⟨.mv (.c (.int .i64 0)), none⟩] [] [] [(3, 0, none)])
 (.drop [7] []))
 (.ret))))⟩
/-- 46: (undertow/cand.look).writer -/
def h46 : Vm.Hint := ⟨[0, 1, 2, 3, 6, 7, 8, 9, 11, 20], [3, 6], [], [[1, 2, 0], [0, 0, 0, 0, 0, 0, 0, 0, 0], [0, 0], [0, 0, 0], [0, 0, 0, 0, 0, 0, 0, 0, 0, 0, 0, 0], [0, 0, 0, 0, 0, 0, 0, 0]], [([0, 5], []), ([1], []), ([7], []), ([2, 3, 6, 9], [(true, 0)]), ([2, 9], []), ([3, 6, 8], [(true, 0)])], []⟩
def ir_cand_look_writer : Vm.Fn := ⟨[0, 1, 2, 3, 6, 7, 8, 9, 11, 20], 2, 0, [.cell 4 true 33, .slot 5],
 .seq (.seq (.reg [⟨.lbox 0 7 (.s 0), none⟩,
   ⟨.lalloc 1 [.int .i64 0, .int .i64 0, .int .u64 0, .int .i64 0, .int .i64 0, .int .i64 0, .int .i64 0, .int .i64 0, .bool false, .bool false, .int .i64 0, .int .i64 0, .int .i64 0, .int .u64 0, .int .u64 0, .int .u64 0, .int .u64 0, .bool false, .int .i64 0, .flt 0, .int .i64 0, .int .i64 0, .int .i64 0, .int .i64 0, .int .i64 0, .int .i64 0, .int .i64 0, .int .i64 0, .int .i64 0, .bool false, .bool false, .int .i64 0, .int .i64 0], none⟩,
   ⟨.mv (.c (.bool false)), none⟩] [(true, 0), (true, 1)] [] [(3, 0, some 1), (4, 1, some 3), (5, 2, none)])
 (.drop [0, 5] []))
 (.seq (.seq (.reg [⟨.off 6 (.s 3), none⟩,
   ⟨.load 0 false 1 (.r 0), none⟩,
   ⟨.mv (.s 1), none⟩,
   ⟨.look true false [.int .i64 0] (.r 1) (.r 2), none⟩,
   ⟨.mv (.r 3), none⟩,
   ⟨.ext (.r 4) 0, none⟩,
   ⟨.ext (.r 4) 1, none⟩,
   ⟨.mv (.r 5), none⟩,
   ⟨.mv (.r 6), none⟩] [] [] [(6, 7, none), (7, 8, none)])
 (.drop [1] []))
 (.seq (.seq (.seq (.reg [⟨.mv (.s 7), none⟩,
   ⟨.un .not (.r 0), none⟩] [] [] [(9, 1, none)])
 (.drop [7] []))
 (.cond (.s 9) (.seq (.seq (.reg [⟨.build [.int .i64 0, .int .i64 0, .int .u64 0, .int .i64 0, .int .i64 0, .int .i64 0, .int .i64 0, .int .i64 0, .bool false, .bool false, .int .i64 0, .int .i64 0, .int .i64 0, .int .u64 0, .int .u64 0, .int .u64 0, .int .u64 0, .bool false, .int .i64 0, .flt 0, .int .i64 0, .int .i64 0, .int .i64 0, .int .i64 0, .int .i64 0, .int .i64 0, .int .i64 0, .int .i64 0, .int .i64 0, .bool false, .bool false, .int .i64 0, .int .i64 0] [], none⟩,
    ⟨.store 0 33 (.s 4) (.r 0), none⟩,
    ⟨.mv (.c (.bool false)), none⟩] [] [] [(5, 2, none)])
  (.drop [2, 3, 6, 9] [(true, 0)]))
  (.ret))
  (.skip)))
 (.seq (.seq (.reg [⟨.off 5 (.s 3), none⟩,
   ⟨.load 0 false 1 (.r 0), none⟩,
   ⟨.mv (.s 6), none⟩,
   ⟨.iaS 33 (.r 1) (.r 2), none⟩,
   ⟨.load 0 true 33 (.r 3), none⟩,
   ⟨.mv (.s 2), none⟩,
   ⟨.call .val n_cand_Byte [(.r 4), (.r 5)], none⟩,
   ⟨.mv (.r 6), none⟩,
   ⟨.ext (.r 7) 0, none⟩,
   ⟨.ext (.r 7) 1, none⟩,
   ⟨.mv (.r 8), none⟩,
   ⟨.mv (.r 9), none⟩] [] [] [(8, 11, none)])
 (.drop [2, 9] []))
 (.seq (.seq (.reg [⟨.off 5 (.s 3), none⟩,
   ⟨.load 0 false 1 (.r 0), none⟩,
   ⟨.mv (.s 6), none⟩,
   ⟨.iaS 33 (.r 1) (.r 2), none⟩,
   ⟨.load 0 true 33 (.r 3), none⟩,
   ⟨.mv (.s 8), none⟩,
   ⟨.store 0 33 (.s 4) (.r 4), none⟩,
   ⟨.mv (.r 5), none⟩] [] [] [(5, 7, none)])
 (.drop [3, 6, 8] [(true, 0)]))
 (.ret)))))⟩
/-- 47: undertow/word.Zext -/
def h47 : Vm.Hint := ⟨[0, 1, 4, 5, 8], [], [], [[0], [0, 0, 0], [0], [0, 0, 0], [0, 0], [0, 0, 0, 0, 0, 0]], [], []⟩
def ir_word_Zext : Vm.Fn := ⟨[0, 1, 4, 5, 8], 0, 0, [.slot 2],
 .seq (.reg [⟨.mv (.c (.int .u64 0)), none⟩] [] [] [(2, 0, none)])
 (.seq (.block 0 (.seq (.reg [⟨.mv (.s 1), none⟩,
    ⟨.bin .lss (.r 0) (.c (.int .i64 1)), none⟩,
    ⟨.mv (.r 1), none⟩] [] [] [(3, 2, none)])
  (.cond (.s 3) (.seq (.reg [⟨.mv (.c (.int .u64 0)), none⟩] [] [] [(2, 0, none)])
   (.ret))
   (.seq (.reg [⟨.mv (.s 1), none⟩,
     ⟨.bin .geq (.r 0) (.c (.int .i64 64)), none⟩,
     ⟨.mv (.r 1), none⟩] [] [] [(4, 2, none)])
   (.cond (.s 4) (.seq (.reg [⟨.mv (.s 0), none⟩,
      ⟨.mv (.r 0), none⟩] [] [] [(2, 1, none)])
    (.ret))
    (.skip))))))
 (.seq (.reg [⟨.mv (.s 0), none⟩,
   ⟨.mv (.s 1), none⟩,
   ⟨.bin .shl (.c (.int .u64 1)) (.r 1), none⟩,
   ⟨.bin .sub (.r 2) (.c (.int .u64 1)), none⟩,
   ⟨.bin .and (.r 0) (.r 3), none⟩,
   ⟨.mv (.r 4), none⟩] [] [] [(2, 5, none)])
 (.ret)))⟩
/-- 48: undertow/word.Bytes -/
def h48 : Vm.Hint := ⟨[0, 1, 4, 5, 7, 8, 9], [], [5], [[0], [1], [0, 0, 0], [0], [0, 0, 0, 1, 2, 0], [0, 0, 0], [0, 0], [0, 0]], [], []⟩
def ir_word_Bytesl0 : C :=
 .seq (.reg [⟨.bin .lss (.s 5) (.s 4), none⟩] [] [] [(6, 0, none)])
 (.seq (.cond (.s 6) (.skip)
  (.exit 0))
 (.seq (.block 1 (.seq (.reg [⟨.mv (.s 3), none⟩,
    ⟨.mv (.s 0), none⟩,
    ⟨.i2i .u8 (.r 1), none⟩,
    ⟨.lit 1 1 [[.int .u8 0]] [(0, (.r 2))], none⟩,
    ⟨.app 2 1 1 (.r 0) (.r 3), none⟩,
    ⟨.mv (.r 4), none⟩] [] [] [(3, 5, some 0)])
  (.reg [⟨.mv (.s 0), none⟩,
    ⟨.bin .shr (.r 0) (.c (.int .u64 8)), none⟩,
    ⟨.mv (.r 1), none⟩] [] [] [(0, 2, none)])))
 (.reg [⟨.bin .add (.s 5) (.c (.int .i64 1)), none⟩,
   ⟨.mv (.r 0), none⟩] [] [] [(5, 1, none)])))
def ir_word_Bytes : Vm.Fn := ⟨[0, 1, 4, 5, 7, 8, 9], 0, 1, [.slot 2],
 .seq (.reg [⟨.mv (.c (.nils)), none⟩] [] [] [(2, 0, none)])
 (.seq (.reg [⟨.onil 0, none⟩] [(false, 0)] [] [(3, 0, some 0)])
 (.seq (.seq (.reg [⟨.mv (.s 1), none⟩,
   ⟨.min [(.r 0), (.c (.int .i64 8))], none⟩,
   ⟨.mv (.c (.int .i64 0)), none⟩] [] [] [(4, 1, none), (5, 2, none)])
 (.block 0 (.loop ir_word_Bytesl0)))
 (.seq (.reg [⟨.mv (.s 3), none⟩,
   ⟨.mv (.r 0), none⟩] [] [] [(2, 1, none)])
 (.ret))))⟩
def hints (f : Nat) : Option Vm.Hint := if f < 26 then (if f < 14 then (if f < 8 then (if f < 5 then (if f < 4 then (if f = 3 then some h3 else none) else (if f = 4 then some h4 else none)) else (if f < 6 then (if f = 5 then some h5 else none) else (if f < 7 then (if f = 6 then some h6 else none) else (if f = 7 then some h7 else none)))) else (if f < 11 then (if f < 9 then (if f = 8 then some h8 else none) else (if f < 10 then (if f = 9 then some h9 else none) else (if f = 10 then some h10 else none))) else (if f < 12 then (if f = 11 then some h11 else none) else (if f < 13 then (if f = 12 then some h12 else none) else (if f = 13 then some h13 else none))))) else (if f < 20 then (if f < 17 then (if f < 15 then (if f = 14 then some h14 else none) else (if f < 16 then (if f = 15 then some h15 else none) else (if f = 16 then some h16 else none))) else (if f < 18 then (if f = 17 then some h17 else none) else (if f < 19 then (if f = 18 then some h18 else none) else (if f = 19 then some h19 else none)))) else (if f < 23 then (if f < 21 then (if f = 20 then some h20 else none) else (if f < 22 then (if f = 21 then some h21 else none) else (if f = 22 then some h22 else none))) else (if f < 24 then (if f = 23 then some h23 else none) else (if f < 25 then (if f = 24 then some h24 else none) else (if f = 25 then some h25 else none)))))) else (if f < 37 then (if f < 31 then (if f < 28 then (if f < 27 then (if f = 26 then some h26 else none) else (if f = 27 then some h27 else none)) else (if f < 29 then (if f = 28 then some h28 else none) else (if f < 30 then (if f = 29 then some h29 else none) else (if f = 30 then some h30 else none)))) else (if f < 34 then (if f < 32 then (if f = 31 then some h31 else none) else (if f < 33 then (if f = 32 then some h32 else none) else (if f = 33 then some h33 else none))) else (if f < 35 then (if f = 34 then some h34 else none) else (if f < 36 then (if f = 35 then some h35 else none) else (if f = 36 then some h36 else none))))) else (if f < 43 then (if f < 40 then (if f < 38 then (if f = 37 then some h37 else none) else (if f < 39 then (if f = 38 then some h38 else none) else (if f = 39 then some h39 else none))) else (if f < 41 then (if f = 40 then some h40 else none) else (if f < 42 then (if f = 41 then some h41 else none) else (if f = 42 then some h42 else none)))) else (if f < 46 then (if f < 44 then (if f = 43 then some h43 else none) else (if f < 45 then (if f = 44 then some h44 else none) else (if f = 45 then some h45 else none))) else (if f < 47 then (if f = 46 then some h46 else none) else (if f < 48 then (if f = 47 then some h47 else none) else (if f = 48 then some h48 else none))))))
noncomputable abbrev pg : Vm.Pg := pgOf Go.Proofs.Try.prog hints glT
theorem fn_undertowlaw20_CandEvents : pg.fn 3 = some ir_undertowlaw20_CandEvents := by kernel_rfl
theorem fn_undertowlaw20_CandChecks : pg.fn 4 = some ir_undertowlaw20_CandChecks := by kernel_rfl
theorem fn_undertowlaw20_CandTurned : pg.fn 5 = some ir_undertowlaw20_CandTurned := by kernel_rfl
theorem fn_undertowlaw20_CandHarts : pg.fn 6 = some ir_undertowlaw20_CandHarts := by kernel_rfl
theorem fn_undertowlaw20_alive : pg.fn 7 = some ir_undertowlaw20_alive := by kernel_rfl
theorem fn_undertowref20_Great : pg.fn 8 = some ir_undertowref20_Great := by kernel_rfl
theorem fn_cand_Events : pg.fn 9 = some ir_cand_Events := by kernel_rfl
theorem fn_undertowref20_Events : pg.fn 10 = some ir_undertowref20_Events := by kernel_rfl
theorem fn_undertowref20_SameEvents : pg.fn 11 = some ir_undertowref20_SameEvents := by kernel_rfl
theorem fn_cand_Find : pg.fn 12 = some ir_cand_Find := by kernel_rfl
theorem fn_undertowref20_Find : pg.fn 13 = some ir_undertowref20_Find := by kernel_rfl
theorem fn_cand_Check : pg.fn 14 = some ir_cand_Check := by kernel_rfl
theorem fn_undertowref20_Check : pg.fn 15 = some ir_undertowref20_Check := by kernel_rfl
theorem fn_cand_Byte : pg.fn 16 = some ir_cand_Byte := by kernel_rfl
theorem fn_cand_isEvent : pg.fn 17 = some ir_cand_isEvent := by kernel_rfl
theorem fn_ops_Loads : pg.fn 18 = some ir_ops_Loads := by kernel_rfl
theorem fn_ops_Stores : pg.fn 19 = some ir_ops_Stores := by kernel_rfl
theorem fn_ops_Size : pg.fn 20 = some ir_ops_Size := by kernel_rfl
theorem fn_undertowref20_IsEvent : pg.fn 21 = some ir_undertowref20_IsEvent := by kernel_rfl
theorem fn_undertowref05_Sort : pg.fn 22 = some ir_undertowref05_Sort := by kernel_rfl
theorem fn_undertowref05_Size : pg.fn 23 = some ir_undertowref05_Size := by kernel_rfl
theorem fn_slices_IndexFunc_api_Event_api_Event : pg.fn 24 = some ir_slices_IndexFunc_api_Event_api_Event := by kernel_rfl
theorem fn_cand_Find_1 : pg.fn 25 = some ir_cand_Find_1 := by kernel_rfl
theorem fn_cand_faults : pg.fn 26 = some ir_cand_faults := by kernel_rfl
theorem fn_undertowref08_Where : pg.fn 27 = some ir_undertowref08_Where := by kernel_rfl
theorem fn_undertowref20_Has : pg.fn 28 = some ir_undertowref20_Has := by kernel_rfl
theorem fn_undertowref20_Byte : pg.fn 29 = some ir_undertowref20_Byte := by kernel_rfl
theorem fn_cand_has : pg.fn 30 = some ir_cand_has := by kernel_rfl
theorem fn_ops_Memory : pg.fn 31 = some ir_ops_Memory := by kernel_rfl
theorem fn_ops_Sort : pg.fn 32 = some ir_ops_Sort := by kernel_rfl
theorem fn_undertowref05_Name : pg.fn 33 = some ir_undertowref05_Name := by kernel_rfl
theorem fn_cand_look_image : pg.fn 34 = some ir_cand_look_image := by kernel_rfl
theorem fn_cand_look_many : pg.fn 35 = some ir_cand_look_many := by kernel_rfl
theorem fn_cand_look_ids : pg.fn 36 = some ir_cand_look_ids := by kernel_rfl
theorem fn_cand_look_places : pg.fn 37 = some ir_cand_look_places := by kernel_rfl
theorem fn_cand_look_tags : pg.fn 38 = some ir_cand_look_tags := by kernel_rfl
theorem fn_cand_look_bytes : pg.fn 39 = some ir_cand_look_bytes := by kernel_rfl
theorem fn_cand_look_orders : pg.fn 40 = some ir_cand_look_orders := by kernel_rfl
theorem fn_cand_look_pairs : pg.fn 41 = some ir_cand_look_pairs := by kernel_rfl
theorem fn_undertowref05_Names : pg.fn 42 = some ir_undertowref05_Names := by kernel_rfl
theorem fn_slices_ContainsFunc_api_Event_api_Event : pg.fn 43 = some ir_slices_ContainsFunc_api_Event_api_Event := by kernel_rfl
theorem fn_cand_look_places_1 : pg.fn 44 = some ir_cand_look_places_1 := by kernel_rfl
theorem fn_alu_Where : pg.fn 45 = some ir_alu_Where := by kernel_rfl
theorem fn_cand_look_writer : pg.fn 46 = some ir_cand_look_writer := by kernel_rfl
theorem fn_word_Zext : pg.fn 47 = some ir_word_Zext := by kernel_rfl
theorem fn_word_Bytes : pg.fn 48 = some ir_word_Bytes := by kernel_rfl
def irL : List (Nat × Vm.Fn) := [(3, ir_undertowlaw20_CandEvents), (4, ir_undertowlaw20_CandChecks), (5, ir_undertowlaw20_CandTurned), (6, ir_undertowlaw20_CandHarts), (7, ir_undertowlaw20_alive), (8, ir_undertowref20_Great), (9, ir_cand_Events), (10, ir_undertowref20_Events), (11, ir_undertowref20_SameEvents), (12, ir_cand_Find), (13, ir_undertowref20_Find), (14, ir_cand_Check), (15, ir_undertowref20_Check), (16, ir_cand_Byte), (17, ir_cand_isEvent), (18, ir_ops_Loads), (19, ir_ops_Stores), (20, ir_ops_Size), (21, ir_undertowref20_IsEvent), (22, ir_undertowref05_Sort), (23, ir_undertowref05_Size), (24, ir_slices_IndexFunc_api_Event_api_Event), (25, ir_cand_Find_1), (26, ir_cand_faults), (27, ir_undertowref08_Where), (28, ir_undertowref20_Has), (29, ir_undertowref20_Byte), (30, ir_cand_has), (31, ir_ops_Memory), (32, ir_ops_Sort), (33, ir_undertowref05_Name), (34, ir_cand_look_image), (35, ir_cand_look_many), (36, ir_cand_look_ids), (37, ir_cand_look_places), (38, ir_cand_look_tags), (39, ir_cand_look_bytes), (40, ir_cand_look_orders), (41, ir_cand_look_pairs), (42, ir_undertowref05_Names), (43, ir_slices_ContainsFunc_api_Event_api_Event), (44, ir_cand_look_places_1), (45, ir_alu_Where), (46, ir_cand_look_writer), (47, ir_word_Zext), (48, ir_word_Bytes)]
theorem irL_ok : ∀ q ∈ irL, pg.fn q.1 = some q.2 := by
  simp only [irL, List.forall_mem_cons]
  exact ⟨fn_undertowlaw20_CandEvents, fn_undertowlaw20_CandChecks, fn_undertowlaw20_CandTurned, fn_undertowlaw20_CandHarts, fn_undertowlaw20_alive, fn_undertowref20_Great, fn_cand_Events, fn_undertowref20_Events, fn_undertowref20_SameEvents, fn_cand_Find, fn_undertowref20_Find, fn_cand_Check, fn_undertowref20_Check, fn_cand_Byte, fn_cand_isEvent, fn_ops_Loads, fn_ops_Stores, fn_ops_Size, fn_undertowref20_IsEvent, fn_undertowref05_Sort, fn_undertowref05_Size, fn_slices_IndexFunc_api_Event_api_Event, fn_cand_Find_1, fn_cand_faults, fn_undertowref08_Where, fn_undertowref20_Has, fn_undertowref20_Byte, fn_cand_has, fn_ops_Memory, fn_ops_Sort, fn_undertowref05_Name, fn_cand_look_image, fn_cand_look_many, fn_cand_look_ids, fn_cand_look_places, fn_cand_look_tags, fn_cand_look_bytes, fn_cand_look_orders, fn_cand_look_pairs, fn_undertowref05_Names, fn_slices_ContainsFunc_api_Event_api_Event, fn_cand_look_places_1, fn_alu_Where, fn_cand_look_writer, fn_word_Zext, fn_word_Bytes, by simp⟩
end Go.Proofs.Ytlkcfhpklibnaaa
