/- The functions' own form, printed by a tool of this session out of the given translation. -/
import Derived.Test.YtkjfedgjjgobaaaDoorVf
import Derived.Test.YtkjfedgjjgobaaaDoorChecked
import Derived.KernelRfl
namespace Go.Proofs.YtkjfedgjjgobaaaDoor
open Go Go.Vm
def glN : List Int := [0, 1, 56, 2, 57, 49, 28, 3, 61, 58, 42, 50, 38, 29, 17, 4, 62, 47, 59, 36, 45, 43, 51, 22, 53, 39, 33, 30, 24, 18, 12, 5, 63, 55, 48, 27, 60, 41, 37, 16, 46, 35, 44, 21, 52, 32, 23, 11, 54, 26, 40, 15, 34, 20, 31, 10, 25, 14, 19, 9, 13, 8, 7, 6]
def glV : List V := glN.map (.int .u8)
def glT : List (Nat × List V) := [(0, glV)]
abbrev n_undertowlaw19_RelCloses : Nat := 3
abbrev n_undertowlaw19_RelPairs : Nat := 4
abbrev n_undertowlaw19_RelOrders : Nat := 5
abbrev n_undertowlaw19_RelMeets : Nat := 6
abbrev n_undertowlaw19_alive : Nat := 7
abbrev n_undertowlaw19_both : Nat := 8
abbrev n_undertowlaw19_same : Nat := 9
abbrev n_rel_Rel_Close : Nat := 10
abbrev n_undertowref19_Close : Nat := 11
abbrev n_rel_Rel_Has : Nat := 12
abbrev n_rel_Rel_Join : Nat := 13
abbrev n_rel_New : Nat := 14
abbrev n_rel_Rel_Order : Nat := 15
abbrev n_rel_Rel_Len : Nat := 16
abbrev n_rel_Rel_Add : Nat := 17
abbrev n_rel_Rel_Pairs : Nat := 18
abbrev n_rel_Rel_Fits : Nat := 19
abbrev n_undertowref19_Order : Nat := 20
abbrev n_undertowref02_SameInts : Nat := 21
abbrev n_undertowref19_Fits : Nat := 22
abbrev n_undertowref19_New : Nat := 23
abbrev n_rel_row_each : Nat := 24
abbrev n_rel_row_join : Nat := 25
abbrev n_rel_Rel_is : Nat := 26
abbrev n_rel_row_has : Nat := 27
abbrev n_rel_row_add : Nat := 28
abbrev n_math_bits_TrailingZeros64 : Nat := 29
/-- 3: undertow/undertowlaw19.RelCloses -/
def h3 : Vm.Hint := ⟨[0, 1, 4, 5, 6, 7, 9, 12], [], [], [[0], [0, 0], [0], [0, 0, 0], [0, 0], [0, 0, 0, 0, 1, 0, 0, 0, 0, 0, 0, 0], [0, 0, 0, 0, 0, 0, 0, 0, 0, 0, 0, 0, 0, 0, 0, 0, 0]], [([2], []), ([], []), ([0, 1, 6], []), ([6], []), ([0, 1, 7], []), ([0, 1, 7], []), ([3, 4, 5], [])], []⟩
def ir_undertowlaw19_RelCloses : Vm.Fn := ⟨[0, 1, 4, 5, 6, 7, 9, 12], 0, 0, [.slot 2],
 .seq (.seq (.reg [⟨.mv (.c (.bool false)), none⟩] [] [] [(2, 0, none)])
 (.drop [2] []))
 (.seq (.seq (.reg [⟨.call .val n_undertowlaw19_alive [], none⟩,
   ⟨.un .not (.r 0), none⟩] [] [] [(6, 1, none)])
 (.cond (.s 6) (.seq (.seq (.reg [⟨.mv (.c (.bool false)), none⟩] [] [] [(2, 0, none)])
  (.drop [0, 1, 6] []))
  (.ret))
  (.skip)))
 (.seq (.seq (.seq (.reg [⟨.mv (.s 1), none⟩,
   ⟨.len 1 (.r 0), none⟩,
   ⟨.bin .gtr (.r 1) (.c (.int .i64 400)), none⟩] [] [] [(7, 2, none)])
 (.drop [6] []))
 (.cond (.s 7) (.seq (.seq (.reg [⟨.call .val n_undertowlaw19_alive [], none⟩,
    ⟨.mv (.r 0), none⟩] [] [] [(2, 1, none)])
  (.drop [0, 1, 7] []))
  (.ret))
  (.skip)))
 (.seq (.seq (.reg [⟨.mv (.s 0), none⟩,
   ⟨.bin .rem (.r 0) (.c (.int .u8 70)), none⟩,
   ⟨.i2i .i64 (.r 1), none⟩,
   ⟨.mv (.s 1), none⟩,
   ⟨.call .heap n_undertowlaw19_both [(.r 2), (.r 3)], none⟩,
   ⟨.mv (.r 4), none⟩,
   ⟨.ext (.r 5) 0, none⟩,
   ⟨.ext (.r 5) 1, none⟩,
   ⟨.ext (.r 5) 2, none⟩,
   ⟨.mv (.r 6), none⟩,
   ⟨.mv (.r 7), none⟩,
   ⟨.mv (.r 8), none⟩] [] [] [(3, 9, none), (4, 10, none), (5, 11, none)])
 (.drop [0, 1, 7] []))
 (.seq (.seq (.reg [⟨.call .val n_undertowlaw19_alive [], none⟩,
   ⟨.mv (.r 0), none⟩,
   ⟨.mv (.s 5), some (1, true)⟩,
   ⟨.pick (.r 1) (.r 2) (.c (.bool false)), none⟩,
   ⟨.mv (.r 3), none⟩,
   ⟨.mv (.s 3), some (4, true)⟩,
   ⟨.call .val n_rel_Rel_Close [(.r 5)], some (4, true)⟩,
   ⟨.mv (.s 4), some (4, true)⟩,
   ⟨.call .val n_undertowref19_Close [(.r 7)], some (4, true)⟩,
   ⟨.call .val n_undertowlaw19_same [(.r 6), (.r 8)], some (4, true)⟩,
   ⟨.pick (.r 4) (.r 9) (.c (.bool false)), none⟩,
   ⟨.mv (.r 10), none⟩,
   ⟨.mv (.s 3), some (11, true)⟩,
   ⟨.mv (.s 4), some (11, true)⟩,
   ⟨.call .val n_undertowlaw19_same [(.r 12), (.r 13)], some (11, true)⟩,
   ⟨.pick (.r 11) (.r 14) (.c (.bool false)), none⟩,
   ⟨.mv (.r 15), none⟩] [] [] [(2, 16, none)])
 (.drop [3, 4, 5] []))
 (.ret)))))⟩
/-- 4: undertow/undertowlaw19.RelPairs -/
def h4 : Vm.Hint := ⟨[0, 1, 2, 3, 4, 10, 11, 12, 13, 14, 15, 16, 17, 18, 19, 20, 22, 24, 32, 92, 109, 114], [], [], [[0], [0, 0], [0], [0, 0, 0, 0, 0, 0, 0, 0], [0, 0], [0, 0, 0, 0], [0, 0, 1, 0, 0, 0, 0, 0, 0, 0], [0, 0, 0, 0, 0, 0, 0, 0, 0, 0, 0, 0, 0, 0, 0, 0, 0, 0, 0, 0, 0, 0, 0, 0, 0, 0, 0, 0, 0, 0, 0, 0, 0, 0, 0, 0, 0, 0, 0, 0, 0, 0, 0, 0, 0, 0, 0, 0, 0], [0], [0, 0, 1, 0, 0, 0, 0, 0, 0, 0], [0, 0, 0, 0, 1, 2, 1], [0], [0, 0, 0], [0, 0, 0], [0], [0, 0, 0], [0, 0, 0], [0, 0, 0, 0, 0, 0, 0, 0, 0, 0, 0, 0, 0, 0, 0, 0, 0, 0, 0, 0, 0, 0, 0], [0], [0, 0, 2, 1], [0, 0, 0, 0, 0, 0, 0], [0, 0, 0, 0, 0, 0, 0, 0, 0, 0, 0, 0, 0, 0, 0, 0, 1, 0, 0, 0, 0, 0, 0, 0, 0, 0, 0, 0, 0, 0, 0, 0, 0, 0, 0, 0, 0, 0, 0, 0, 0, 0, 0, 0, 0, 1, 0, 0, 0, 1, 0, 0, 0, 1, 0, 0, 0, 0]], [([5], []), ([], []), ([0, 1, 2, 3, 4, 17], []), ([17], []), ([0, 1, 2, 3, 4, 18], []), ([0, 18], []), ([1], []), ([3, 4, 9], []), ([2, 6, 7, 8, 19], []), ([2, 19], []), ([10], []), ([], []), ([], []), ([14, 21], []), ([20], []), ([], []), ([], []), ([21], []), ([6, 11, 13, 20], []), ([], []), ([], []), ([7, 8, 12, 15, 16], [])], []⟩
def ir_undertowlaw19_RelPairsl0 : C :=
 .seq (.seq (.reg [⟨.mv (.s 14), none⟩,
   ⟨.mv (.s 6), none⟩,
   ⟨.bin .lss (.r 0) (.r 1), none⟩] [] [] [(21, 2, none)])
 (.cond (.s 21) (.skip)
  (.exit 2)))
 (.seq (.block 3 (.seq (.reg [⟨.mv (.s 8), none⟩,
    ⟨.mv (.s 13), none⟩,
    ⟨.iaS 1 (.r 0) (.r 1), none⟩,
    ⟨.load 0 false 1 (.r 2), none⟩,
    ⟨.mv (.s 14), none⟩,
    ⟨.mv (.s 8), none⟩,
    ⟨.mv (.s 13), none⟩,
    ⟨.iaS 1 (.r 5) (.r 6), none⟩,
    ⟨.load 0 false 1 (.r 7), none⟩,
    ⟨.mv (.s 14), none⟩,
    ⟨.iaS 1 (.r 8) (.r 9), none⟩,
    ⟨.load 0 false 1 (.r 10), none⟩,
    ⟨.mv (.r 11), none⟩,
    ⟨.mv (.s 11), some (12, false)⟩,
    ⟨.mv (.s 13), some (12, false)⟩,
    ⟨.iaS 1 (.r 13) (.r 14), some (12, false)⟩,
    ⟨.load 0 false 1 (.r 15), some (12, false)⟩,
    ⟨.mv (.s 14), some (12, false)⟩,
    ⟨.iaS 1 (.r 16) (.r 17), some (12, false)⟩,
    ⟨.load 0 false 1 (.r 18), some (12, false)⟩,
    ⟨.pick (.r 12) (.c (.bool true)) (.r 19), none⟩,
    ⟨.iaS 1 (.r 3) (.r 4), none⟩,
    ⟨.store 0 1 (.r 21) (.r 20), none⟩] [] [(2, 7), (2, 8), (2, 10), (2, 11), (2, 15), (2, 16), (2, 18), (2, 19), (3, 7), (3, 8), (3, 10), (3, 11), (3, 15), (3, 16), (3, 18), (3, 19)] [])
  (.drop [21] [])))
 (.reg [⟨.mv (.s 14), none⟩,
   ⟨.bin .add (.r 0) (.c (.int .i64 1)), none⟩,
   ⟨.mv (.r 1), none⟩] [] [] [(14, 2, none)]))
def ir_undertowlaw19_RelPairsl1 : C :=
 .seq (.seq (.reg [⟨.mv (.s 13), none⟩,
   ⟨.mv (.s 6), none⟩,
   ⟨.bin .lss (.r 0) (.r 1), none⟩] [] [] [(20, 2, none)])
 (.cond (.s 20) (.skip)
  (.exit 0)))
 (.seq (.block 1 (.seq (.seq (.reg [⟨.mv (.c (.int .i64 0)), none⟩] [] [] [(14, 0, none)])
  (.drop [20] []))
  (.block 2 (.loop ir_undertowlaw19_RelPairsl0))))
 (.seq (.reg [⟨.mv (.s 13), none⟩,
   ⟨.bin .add (.r 0) (.c (.int .i64 1)), none⟩,
   ⟨.mv (.r 1), none⟩] [] [] [(13, 2, none)])
 (.drop [14, 21] [])))
def ir_undertowlaw19_RelPairs : Vm.Fn := ⟨[0, 1, 2, 3, 4, 10, 11, 12, 13, 14, 15, 16, 17, 18, 19, 20, 22, 24, 32, 92, 109, 114], 0, 0, [.slot 5],
 .seq (.seq (.reg [⟨.mv (.c (.bool false)), none⟩] [] [] [(5, 0, none)])
 (.drop [5] []))
 (.seq (.seq (.reg [⟨.call .val n_undertowlaw19_alive [], none⟩,
   ⟨.un .not (.r 0), none⟩] [] [] [(17, 1, none)])
 (.cond (.s 17) (.seq (.seq (.reg [⟨.mv (.c (.bool false)), none⟩] [] [] [(5, 0, none)])
  (.drop [0, 1, 2, 3, 4, 17] []))
  (.ret))
  (.skip)))
 (.seq (.seq (.seq (.reg [⟨.mv (.s 1), none⟩,
   ⟨.len 1 (.r 0), none⟩,
   ⟨.bin .gtr (.r 1) (.c (.int .i64 400)), none⟩,
   ⟨.mv (.r 2), none⟩,
   ⟨.mv (.s 2), some (3, false)⟩,
   ⟨.len 1 (.r 4), some (3, false)⟩,
   ⟨.bin .gtr (.r 5) (.c (.int .i64 400)), some (3, false)⟩,
   ⟨.pick (.r 3) (.c (.bool true)) (.r 6), none⟩] [] [] [(18, 7, none)])
 (.drop [17] []))
 (.cond (.s 18) (.seq (.seq (.reg [⟨.call .val n_undertowlaw19_alive [], none⟩,
    ⟨.mv (.r 0), none⟩] [] [] [(5, 1, none)])
  (.drop [0, 1, 2, 3, 4, 18] []))
  (.ret))
  (.skip)))
 (.seq (.seq (.reg [⟨.mv (.s 0), none⟩,
   ⟨.bin .rem (.r 0) (.c (.int .u8 100)), none⟩,
   ⟨.i2i .i64 (.r 1), none⟩,
   ⟨.mv (.r 2), none⟩] [] [] [(6, 3, none)])
 (.drop [0, 18] []))
 (.seq (.seq (.reg [⟨.mv (.s 6), none⟩,
   ⟨.mv (.s 1), none⟩,
   ⟨.call .heap n_undertowlaw19_both [(.r 0), (.r 1)], none⟩,
   ⟨.mv (.r 2), none⟩,
   ⟨.ext (.r 3) 0, none⟩,
   ⟨.ext (.r 3) 1, none⟩,
   ⟨.ext (.r 3) 2, none⟩,
   ⟨.mv (.r 4), none⟩,
   ⟨.mv (.r 5), none⟩,
   ⟨.mv (.r 6), none⟩] [] [] [(7, 7, none), (8, 8, none), (9, 9, none)])
 (.drop [1] []))
 (.seq (.seq (.seq (.reg [⟨.mv (.s 9), none⟩,
   ⟨.un .not (.r 0), none⟩,
   ⟨.mv (.r 1), none⟩,
   ⟨.mv (.s 7), some (2, false)⟩,
   ⟨.mv (.s 8), some (2, false)⟩,
   ⟨.call .val n_undertowlaw19_same [(.r 3), (.r 4)], some (2, false)⟩,
   ⟨.un .not (.r 5), some (2, false)⟩,
   ⟨.pick (.r 2) (.c (.bool true)) (.r 6), none⟩,
   ⟨.mv (.r 7), none⟩,
   ⟨.mv (.s 7), some (8, false)⟩,
   ⟨.call .val n_rel_Rel_Has [(.r 9), (.c (.int .i64 (-1))), (.c (.int .i64 0))], some (8, false)⟩,
   ⟨.pick (.r 8) (.c (.bool true)) (.r 10), none⟩,
   ⟨.mv (.r 11), none⟩,
   ⟨.mv (.s 7), some (12, false)⟩,
   ⟨.mv (.s 6), some (12, false)⟩,
   ⟨.call .val n_rel_Rel_Has [(.r 13), (.c (.int .i64 0)), (.r 14)], some (12, false)⟩,
   ⟨.pick (.r 12) (.c (.bool true)) (.r 15), none⟩,
   ⟨.mv (.r 16), none⟩,
   ⟨.mv (.s 7), some (17, false)⟩,
   ⟨.mv (.s 3), some (17, false)⟩,
   ⟨.mv (.s 4), some (17, false)⟩,
   ⟨.call .val n_rel_Rel_Has [(.r 18), (.r 19), (.r 20)], some (17, false)⟩,
   ⟨.mv (.s 3), some (17, false)⟩,
   ⟨.bin .geq (.r 22) (.c (.int .i64 0)), some (17, false)⟩,
   ⟨.mv (.r 23), some (17, false)⟩,
   ⟨.mv (.s 3), some (24, true)⟩,
   ⟨.mv (.s 6), some (24, true)⟩,
   ⟨.bin .lss (.r 25) (.r 26), some (24, true)⟩,
   ⟨.pick (.r 24) (.r 27) (.c (.bool false)), some (17, false)⟩,
   ⟨.mv (.r 28), some (17, false)⟩,
   ⟨.mv (.s 4), some (29, true)⟩,
   ⟨.bin .geq (.r 30) (.c (.int .i64 0)), some (29, true)⟩,
   ⟨.pick (.r 29) (.r 31) (.c (.bool false)), some (17, false)⟩,
   ⟨.mv (.r 32), some (17, false)⟩,
   ⟨.mv (.s 4), some (33, true)⟩,
   ⟨.mv (.s 6), some (33, true)⟩,
   ⟨.bin .lss (.r 34) (.r 35), some (33, true)⟩,
   ⟨.pick (.r 33) (.r 36) (.c (.bool false)), some (17, false)⟩,
   ⟨.mv (.r 37), some (17, false)⟩,
   ⟨.mv (.s 8), some (38, true)⟩,
   ⟨.mv (.s 3), some (38, true)⟩,
   ⟨.iaS 1 (.r 39) (.r 40), some (38, true)⟩,
   ⟨.load 0 false 1 (.r 41), some (38, true)⟩,
   ⟨.mv (.s 4), some (38, true)⟩,
   ⟨.iaS 1 (.r 42) (.r 43), some (38, true)⟩,
   ⟨.load 0 false 1 (.r 44), some (38, true)⟩,
   ⟨.pick (.r 38) (.r 45) (.c (.bool false)), some (17, false)⟩,
   ⟨.eqb true (.r 21) (.r 46), some (17, false)⟩,
   ⟨.pick (.r 17) (.c (.bool true)) (.r 47), none⟩] [] [] [(19, 48, none)])
 (.drop [3, 4, 9] []))
 (.cond (.s 19) (.seq (.seq (.reg [⟨.mv (.c (.bool false)), none⟩] [] [] [(5, 0, none)])
  (.drop [2, 6, 7, 8, 19] []))
  (.ret))
  (.skip)))
 (.seq (.seq (.reg [⟨.mv (.s 6), none⟩,
   ⟨.mv (.s 2), none⟩,
   ⟨.call .heap n_undertowlaw19_both [(.r 0), (.r 1)], none⟩,
   ⟨.mv (.r 2), none⟩,
   ⟨.ext (.r 3) 0, none⟩,
   ⟨.ext (.r 3) 1, none⟩,
   ⟨.ext (.r 3) 2, none⟩,
   ⟨.mv (.r 4), none⟩,
   ⟨.mv (.r 5), none⟩,
   ⟨.mv (.r 6), none⟩] [] [] [(10, 7, none), (11, 8, none), (12, 9, none)])
 (.drop [2, 19] []))
 (.seq (.seq (.reg [⟨.mv (.s 7), none⟩,
   ⟨.mv (.s 10), none⟩,
   ⟨.mv (.s 6), none⟩,
   ⟨.bin .add (.r 2) (.c (.int .i64 1)), none⟩,
   ⟨.call .heap n_rel_New [(.r 3)], none⟩,
   ⟨.lit 2 1 [[.nilp], [.nilp], [.nilp]] [(0, (.r 1)), (1, (.c (.nilp))), (2, (.r 4))], none⟩,
   ⟨.call .heap n_rel_Rel_Join [(.r 0), (.r 5)], none⟩] [] [] [])
 (.drop [10] []))
 (.seq (.seq (.reg [⟨.mv (.c (.int .i64 0)), none⟩] [] [] [(13, 0, none)])
 (.block 0 (.loop ir_undertowlaw19_RelPairsl1)))
 (.seq (.seq (.reg [⟨.mv (.c (.nilp)), none⟩] [] [] [(15, 0, none)])
 (.drop [6, 11, 13, 20] []))
 (.seq (.reg [⟨.mv (.s 15), none⟩,
   ⟨.mv (.s 7), none⟩,
   ⟨.lit 2 1 [[.nilp]] [(0, (.r 1))], none⟩,
   ⟨.call .heap n_rel_Rel_Join [(.r 0), (.r 2)], none⟩] [] [] [])
 (.seq (.reg [⟨.mv (.s 15), none⟩,
   ⟨.call .val n_rel_Rel_Order [(.r 0)], none⟩,
   ⟨.mv (.r 1), none⟩,
   ⟨.ext (.r 2) 0, none⟩,
   ⟨.ext (.r 2) 1, none⟩,
   ⟨.mv (.r 3), none⟩,
   ⟨.mv (.r 4), none⟩] [] [] [(16, 6, none)])
 (.seq (.seq (.reg [⟨.call .val n_undertowlaw19_alive [], none⟩,
   ⟨.mv (.r 0), none⟩,
   ⟨.mv (.s 12), some (1, true)⟩,
   ⟨.pick (.r 1) (.r 2) (.c (.bool false)), none⟩,
   ⟨.mv (.r 3), none⟩,
   ⟨.mv (.s 7), some (4, true)⟩,
   ⟨.mv (.s 8), some (4, true)⟩,
   ⟨.call .val n_undertowlaw19_same [(.r 5), (.r 6)], some (4, true)⟩,
   ⟨.pick (.r 4) (.r 7) (.c (.bool false)), none⟩,
   ⟨.mv (.r 8), none⟩,
   ⟨.mv (.s 15), some (9, true)⟩,
   ⟨.call .val n_rel_Rel_Len [(.r 10)], some (9, true)⟩,
   ⟨.bin .eql (.r 11) (.c (.int .i64 0)), some (9, true)⟩,
   ⟨.pick (.r 9) (.r 12) (.c (.bool false)), none⟩,
   ⟨.mv (.r 13), none⟩,
   ⟨.mv (.s 15), some (14, true)⟩,
   ⟨.call .heap n_rel_Rel_Add [(.r 15), (.c (.int .i64 0)), (.c (.int .i64 0))], some (14, true)⟩,
   ⟨.un .not (.r 16), some (14, true)⟩,
   ⟨.pick (.r 14) (.r 17) (.c (.bool false)), none⟩,
   ⟨.mv (.r 18), none⟩,
   ⟨.mv (.s 15), some (19, true)⟩,
   ⟨.call .val n_rel_Rel_Has [(.r 20), (.c (.int .i64 0)), (.c (.int .i64 0))], some (19, true)⟩,
   ⟨.un .not (.r 21), some (19, true)⟩,
   ⟨.pick (.r 19) (.r 22) (.c (.bool false)), none⟩,
   ⟨.mv (.r 23), none⟩,
   ⟨.mv (.s 15), some (24, true)⟩,
   ⟨.call .val n_rel_Rel_Pairs [(.r 25)], some (24, true)⟩,
   ⟨.len 1 (.r 26), some (24, true)⟩,
   ⟨.bin .eql (.r 27) (.c (.int .i64 0)), some (24, true)⟩,
   ⟨.pick (.r 24) (.r 28) (.c (.bool false)), none⟩,
   ⟨.mv (.r 29), none⟩,
   ⟨.mv (.s 15), some (30, true)⟩,
   ⟨.call .val n_rel_Rel_Close [(.r 31)], some (30, true)⟩,
   ⟨.eqn .ptr false (.r 32) (.c (.nilp)), some (30, true)⟩,
   ⟨.pick (.r 30) (.r 33) (.c (.bool false)), none⟩,
   ⟨.mv (.r 34), none⟩,
   ⟨.mv (.s 16), some (35, true)⟩,
   ⟨.un .not (.r 36), some (35, true)⟩,
   ⟨.pick (.r 35) (.r 37) (.c (.bool false)), none⟩,
   ⟨.mv (.r 38), none⟩,
   ⟨.mv (.s 15), some (39, true)⟩,
   ⟨.call .val n_rel_Rel_Fits [(.r 40), (.c (.nils))], some (39, true)⟩,
   ⟨.un .not (.r 41), some (39, true)⟩,
   ⟨.pick (.r 39) (.r 42) (.c (.bool false)), none⟩,
   ⟨.mv (.r 43), none⟩,
   ⟨.call .heap n_rel_New [(.c (.int .i64 (-1)))], some (44, true)⟩,
   ⟨.eqn .ptr false (.r 45) (.c (.nilp)), some (44, true)⟩,
   ⟨.pick (.r 44) (.r 46) (.c (.bool false)), none⟩,
   ⟨.mv (.r 47), none⟩,
   ⟨.call .heap n_rel_New [(.c (.int .i64 513))], some (48, true)⟩,
   ⟨.eqn .ptr false (.r 49) (.c (.nilp)), some (48, true)⟩,
   ⟨.pick (.r 48) (.r 50) (.c (.bool false)), none⟩,
   ⟨.mv (.r 51), none⟩,
   ⟨.call .heap n_rel_New [(.c (.int .i64 512))], some (52, true)⟩,
   ⟨.call .val n_rel_Rel_Len [(.r 53)], some (52, true)⟩,
   ⟨.bin .eql (.r 54) (.c (.int .i64 512)), some (52, true)⟩,
   ⟨.pick (.r 52) (.r 55) (.c (.bool false)), none⟩,
   ⟨.mv (.r 56), none⟩] [] [] [(5, 57, none)])
 (.drop [7, 8, 12, 15, 16] []))
 (.ret)))))))))))))⟩
/-- 5: undertow/undertowlaw19.RelOrders -/
def h5 : Vm.Hint := ⟨[0, 1, 2, 6, 7, 8, 9, 10, 11, 12, 13, 15, 23], [], [], [[0], [0, 0], [0], [0, 0, 0, 0, 0, 0, 0, 0], [0, 0], [0, 0, 0, 0, 1, 0, 0, 0, 0, 0, 0, 0], [0, 0, 0, 0, 0, 0, 0], [0, 0, 0, 0, 0, 0, 0], [0, 0, 0, 0, 0, 0, 0, 0, 0, 0, 0, 0, 0, 0, 0, 0, 0, 0, 0, 0, 0, 0, 0, 0]], [([3], []), ([], []), ([0, 1, 2, 11], []), ([11], []), ([0, 1, 2, 12], []), ([0, 1, 12], []), ([], []), ([], []), ([2, 4, 5, 6, 7, 8, 9, 10], [])], []⟩
def ir_undertowlaw19_RelOrders : Vm.Fn := ⟨[0, 1, 2, 6, 7, 8, 9, 10, 11, 12, 13, 15, 23], 0, 0, [.slot 3],
 .seq (.seq (.reg [⟨.mv (.c (.bool false)), none⟩] [] [] [(3, 0, none)])
 (.drop [3] []))
 (.seq (.seq (.reg [⟨.call .val n_undertowlaw19_alive [], none⟩,
   ⟨.un .not (.r 0), none⟩] [] [] [(11, 1, none)])
 (.cond (.s 11) (.seq (.seq (.reg [⟨.mv (.c (.bool false)), none⟩] [] [] [(3, 0, none)])
  (.drop [0, 1, 2, 11] []))
  (.ret))
  (.skip)))
 (.seq (.seq (.seq (.reg [⟨.mv (.s 1), none⟩,
   ⟨.len 1 (.r 0), none⟩,
   ⟨.bin .gtr (.r 1) (.c (.int .i64 400)), none⟩,
   ⟨.mv (.r 2), none⟩,
   ⟨.mv (.s 2), some (3, false)⟩,
   ⟨.len 1 (.r 4), some (3, false)⟩,
   ⟨.bin .gtr (.r 5) (.c (.int .i64 400)), some (3, false)⟩,
   ⟨.pick (.r 3) (.c (.bool true)) (.r 6), none⟩] [] [] [(12, 7, none)])
 (.drop [11] []))
 (.cond (.s 12) (.seq (.seq (.reg [⟨.call .val n_undertowlaw19_alive [], none⟩,
    ⟨.mv (.r 0), none⟩] [] [] [(3, 1, none)])
  (.drop [0, 1, 2, 12] []))
  (.ret))
  (.skip)))
 (.seq (.seq (.reg [⟨.mv (.s 0), none⟩,
   ⟨.bin .rem (.r 0) (.c (.int .u8 70)), none⟩,
   ⟨.i2i .i64 (.r 1), none⟩,
   ⟨.mv (.s 1), none⟩,
   ⟨.call .heap n_undertowlaw19_both [(.r 2), (.r 3)], none⟩,
   ⟨.mv (.r 4), none⟩,
   ⟨.ext (.r 5) 0, none⟩,
   ⟨.ext (.r 5) 1, none⟩,
   ⟨.ext (.r 5) 2, none⟩,
   ⟨.mv (.r 6), none⟩,
   ⟨.mv (.r 7), none⟩,
   ⟨.mv (.r 8), none⟩] [] [] [(4, 9, none), (5, 10, none), (6, 11, none)])
 (.drop [0, 1, 12] []))
 (.seq (.reg [⟨.mv (.s 4), none⟩,
   ⟨.call .val n_rel_Rel_Order [(.r 0)], none⟩,
   ⟨.mv (.r 1), none⟩,
   ⟨.ext (.r 2) 0, none⟩,
   ⟨.ext (.r 2) 1, none⟩,
   ⟨.mv (.r 3), none⟩,
   ⟨.mv (.r 4), none⟩] [] [] [(7, 5, none), (8, 6, none)])
 (.seq (.reg [⟨.mv (.s 5), none⟩,
   ⟨.call .val n_undertowref19_Order [(.r 0)], none⟩,
   ⟨.mv (.r 1), none⟩,
   ⟨.ext (.r 2) 0, none⟩,
   ⟨.ext (.r 2) 1, none⟩,
   ⟨.mv (.r 3), none⟩,
   ⟨.mv (.r 4), none⟩] [] [] [(9, 5, none), (10, 6, none)])
 (.seq (.seq (.reg [⟨.call .val n_undertowlaw19_alive [], none⟩,
   ⟨.mv (.r 0), none⟩,
   ⟨.mv (.s 6), some (1, true)⟩,
   ⟨.pick (.r 1) (.r 2) (.c (.bool false)), none⟩,
   ⟨.mv (.r 3), none⟩,
   ⟨.mv (.s 8), some (4, true)⟩,
   ⟨.mv (.s 10), some (4, true)⟩,
   ⟨.eqb false (.r 5) (.r 6), some (4, true)⟩,
   ⟨.pick (.r 4) (.r 7) (.c (.bool false)), none⟩,
   ⟨.mv (.r 8), none⟩,
   ⟨.mv (.s 7), some (9, true)⟩,
   ⟨.mv (.s 9), some (9, true)⟩,
   ⟨.call .val n_undertowref02_SameInts [(.r 10), (.r 11)], some (9, true)⟩,
   ⟨.pick (.r 9) (.r 12) (.c (.bool false)), none⟩,
   ⟨.mv (.r 13), none⟩,
   ⟨.mv (.s 4), some (14, true)⟩,
   ⟨.mv (.s 2), some (14, true)⟩,
   ⟨.call .val n_rel_Rel_Fits [(.r 15), (.r 16)], some (14, true)⟩,
   ⟨.mv (.s 5), some (14, true)⟩,
   ⟨.mv (.s 2), some (14, true)⟩,
   ⟨.call .val n_undertowref19_Fits [(.r 18), (.r 19)], some (14, true)⟩,
   ⟨.eqb false (.r 17) (.r 20), some (14, true)⟩,
   ⟨.pick (.r 14) (.r 21) (.c (.bool false)), none⟩,
   ⟨.mv (.r 22), none⟩] [] [] [(3, 23, none)])
 (.drop [2, 4, 5, 6, 7, 8, 9, 10] []))
 (.ret)))))))⟩
/-- 6: undertow/undertowlaw19.RelMeets -/
def h6 : Vm.Hint := ⟨[0, 1, 2, 6, 7, 8, 10, 11, 12, 13, 14, 15, 16, 17, 19, 27, 40, 61, 68, 80, 104], [], [], [[0], [0, 0], [0], [0, 0, 0, 0, 0, 0, 0, 0], [0, 0], [0, 0, 0, 0], [0, 0, 1, 0, 0, 0, 0, 0, 0, 0], [0, 0], [0], [0, 0, 0, 0, 0, 0, 0], [0, 0, 0, 0, 0, 0, 0, 0, 0, 0, 0, 0, 0, 0, 0, 0], [0], [0, 0, 0], [0, 0, 0], [0], [0], [0, 0, 0], [0, 0, 0], [0, 0, 0, 0, 0, 0, 0, 0], [0], [0, 0, 0], [0, 0, 0], [0, 0, 0, 0, 0, 0, 0, 0, 0, 0, 0, 0, 0, 0, 0, 0, 0, 0, 0, 0, 0, 0], [0], [0, 0, 0, 0, 0, 0, 0]], [([3], []), ([], []), ([0, 1, 2, 14], []), ([14], []), ([0, 1, 2, 15], []), ([0, 15], []), ([1], []), ([6], []), ([2, 4, 5, 16], []), ([16], []), ([2, 7], []), ([4, 5, 8, 17], []), ([17], []), ([], []), ([], []), ([], []), ([], []), ([13, 19], []), ([18], []), ([], []), ([], []), ([20], []), ([19], []), ([4, 5, 8, 9, 10, 11, 12, 13, 20], []), ([4, 5, 8, 9, 10, 11, 12, 18], [])], []⟩
def ir_undertowlaw19_RelMeetsl0 : C :=
 .seq (.seq (.reg [⟨.mv (.s 13), none⟩,
   ⟨.mv (.s 4), none⟩,
   ⟨.bin .lss (.r 0) (.r 1), none⟩] [] [] [(19, 2, none)])
 (.cond (.s 19) (.skip)
  (.exit 2)))
 (.seq (.block 3 (.seq (.seq (.reg [⟨.mv (.s 5), none⟩,
    ⟨.mv (.s 12), none⟩,
    ⟨.mv (.s 13), none⟩,
    ⟨.call .val n_rel_Rel_Has [(.r 0), (.r 1), (.r 2)], none⟩,
    ⟨.mv (.r 3), none⟩,
    ⟨.mv (.s 9), some (4, true)⟩,
    ⟨.mv (.s 12), some (4, true)⟩,
    ⟨.mv (.s 13), some (4, true)⟩,
    ⟨.call .val n_rel_Rel_Has [(.r 5), (.r 6), (.r 7)], some (4, true)⟩,
    ⟨.un .not (.r 8), some (4, true)⟩,
    ⟨.pick (.r 4) (.r 9) (.c (.bool false)), none⟩,
    ⟨.mv (.r 10), none⟩,
    ⟨.mv (.s 9), some (11, false)⟩,
    ⟨.mv (.s 12), some (11, false)⟩,
    ⟨.mv (.s 13), some (11, false)⟩,
    ⟨.call .val n_rel_Rel_Has [(.r 12), (.r 13), (.r 14)], some (11, false)⟩,
    ⟨.mv (.s 10), some (11, false)⟩,
    ⟨.mv (.s 12), some (11, false)⟩,
    ⟨.mv (.s 13), some (11, false)⟩,
    ⟨.call .val n_rel_Rel_Has [(.r 16), (.r 17), (.r 18)], some (11, false)⟩,
    ⟨.eqb true (.r 15) (.r 19), some (11, false)⟩,
    ⟨.pick (.r 11) (.c (.bool true)) (.r 20), none⟩] [] [] [(20, 21, none)])
  (.drop [19] []))
  (.cond (.s 20) (.seq (.seq (.reg [⟨.mv (.c (.bool false)), none⟩] [] [] [(3, 0, none)])
   (.drop [4, 5, 8, 9, 10, 11, 12, 13, 20] []))
   (.ret))
   (.skip))))
 (.seq (.reg [⟨.mv (.s 13), none⟩,
   ⟨.bin .add (.r 0) (.c (.int .i64 1)), none⟩,
   ⟨.mv (.r 1), none⟩] [] [] [(13, 2, none)])
 (.drop [20] [])))
def ir_undertowlaw19_RelMeetsl1 : C :=
 .seq (.seq (.reg [⟨.mv (.s 12), none⟩,
   ⟨.mv (.s 4), none⟩,
   ⟨.bin .lss (.r 0) (.r 1), none⟩] [] [] [(18, 2, none)])
 (.cond (.s 18) (.skip)
  (.exit 0)))
 (.seq (.block 1 (.seq (.seq (.reg [⟨.mv (.s 11), none⟩,
    ⟨.mv (.r 0), none⟩,
    ⟨.mv (.s 9), some (1, false)⟩,
    ⟨.mv (.s 12), some (1, false)⟩,
    ⟨.mv (.s 12), some (1, false)⟩,
    ⟨.call .val n_rel_Rel_Has [(.r 2), (.r 3), (.r 4)], some (1, false)⟩,
    ⟨.pick (.r 1) (.c (.bool true)) (.r 5), none⟩,
    ⟨.mv (.r 6), none⟩] [] [] [(11, 7, none)])
  (.drop [18] []))
  (.seq (.reg [⟨.mv (.c (.int .i64 0)), none⟩] [] [] [(13, 0, none)])
  (.block 2 (.loop ir_undertowlaw19_RelMeetsl0)))))
 (.seq (.reg [⟨.mv (.s 12), none⟩,
   ⟨.bin .add (.r 0) (.c (.int .i64 1)), none⟩,
   ⟨.mv (.r 1), none⟩] [] [] [(12, 2, none)])
 (.drop [13, 19] [])))
def ir_undertowlaw19_RelMeets : Vm.Fn := ⟨[0, 1, 2, 6, 7, 8, 10, 11, 12, 13, 14, 15, 16, 17, 19, 27, 40, 61, 68, 80, 104], 0, 0, [.slot 3],
 .seq (.seq (.reg [⟨.mv (.c (.bool false)), none⟩] [] [] [(3, 0, none)])
 (.drop [3] []))
 (.seq (.seq (.reg [⟨.call .val n_undertowlaw19_alive [], none⟩,
   ⟨.un .not (.r 0), none⟩] [] [] [(14, 1, none)])
 (.cond (.s 14) (.seq (.seq (.reg [⟨.mv (.c (.bool false)), none⟩] [] [] [(3, 0, none)])
  (.drop [0, 1, 2, 14] []))
  (.ret))
  (.skip)))
 (.seq (.seq (.seq (.reg [⟨.mv (.s 1), none⟩,
   ⟨.len 1 (.r 0), none⟩,
   ⟨.bin .gtr (.r 1) (.c (.int .i64 400)), none⟩,
   ⟨.mv (.r 2), none⟩,
   ⟨.mv (.s 2), some (3, false)⟩,
   ⟨.len 1 (.r 4), some (3, false)⟩,
   ⟨.bin .gtr (.r 5) (.c (.int .i64 400)), some (3, false)⟩,
   ⟨.pick (.r 3) (.c (.bool true)) (.r 6), none⟩] [] [] [(15, 7, none)])
 (.drop [14] []))
 (.cond (.s 15) (.seq (.seq (.reg [⟨.call .val n_undertowlaw19_alive [], none⟩,
    ⟨.mv (.r 0), none⟩] [] [] [(3, 1, none)])
  (.drop [0, 1, 2, 15] []))
  (.ret))
  (.skip)))
 (.seq (.seq (.reg [⟨.mv (.s 0), none⟩,
   ⟨.bin .rem (.r 0) (.c (.int .u8 70)), none⟩,
   ⟨.i2i .i64 (.r 1), none⟩,
   ⟨.mv (.r 2), none⟩] [] [] [(4, 3, none)])
 (.drop [0, 15] []))
 (.seq (.seq (.reg [⟨.mv (.s 4), none⟩,
   ⟨.mv (.s 1), none⟩,
   ⟨.call .heap n_undertowlaw19_both [(.r 0), (.r 1)], none⟩,
   ⟨.mv (.r 2), none⟩,
   ⟨.ext (.r 3) 0, none⟩,
   ⟨.ext (.r 3) 1, none⟩,
   ⟨.ext (.r 3) 2, none⟩,
   ⟨.mv (.r 4), none⟩,
   ⟨.mv (.r 5), none⟩,
   ⟨.mv (.r 6), none⟩] [] [] [(5, 7, none), (6, 9, none)])
 (.drop [1] []))
 (.seq (.seq (.seq (.reg [⟨.mv (.s 6), none⟩,
   ⟨.un .not (.r 0), none⟩] [] [] [(16, 1, none)])
 (.drop [6] []))
 (.cond (.s 16) (.seq (.seq (.reg [⟨.mv (.c (.bool false)), none⟩] [] [] [(3, 0, none)])
  (.drop [2, 4, 5, 16] []))
  (.ret))
  (.skip)))
 (.seq (.seq (.reg [⟨.mv (.s 5), none⟩,
   ⟨.call .val n_rel_Rel_Order [(.r 0)], none⟩,
   ⟨.mv (.r 1), none⟩,
   ⟨.ext (.r 2) 0, none⟩,
   ⟨.ext (.r 2) 1, none⟩,
   ⟨.mv (.r 3), none⟩,
   ⟨.mv (.r 4), none⟩] [] [] [(7, 5, none), (8, 6, none)])
 (.drop [16] []))
 (.seq (.seq (.seq (.reg [⟨.mv (.s 8), none⟩,
   ⟨.mv (.r 0), none⟩,
   ⟨.mv (.s 5), some (1, true)⟩,
   ⟨.mv (.s 7), some (1, true)⟩,
   ⟨.call .val n_rel_Rel_Fits [(.r 2), (.r 3)], some (1, true)⟩,
   ⟨.un .not (.r 4), some (1, true)⟩,
   ⟨.pick (.r 1) (.r 5) (.c (.bool false)), none⟩,
   ⟨.mv (.r 6), none⟩,
   ⟨.mv (.s 5), some (7, false)⟩,
   ⟨.mv (.s 2), some (7, false)⟩,
   ⟨.call .val n_rel_Rel_Fits [(.r 8), (.r 9)], some (7, false)⟩,
   ⟨.mv (.r 10), some (7, false)⟩,
   ⟨.mv (.s 8), some (11, true)⟩,
   ⟨.un .not (.r 12), some (11, true)⟩,
   ⟨.pick (.r 11) (.r 13) (.c (.bool false)), some (7, false)⟩,
   ⟨.pick (.r 7) (.c (.bool true)) (.r 14), none⟩] [] [] [(17, 15, none)])
 (.drop [2, 7] []))
 (.cond (.s 17) (.seq (.seq (.reg [⟨.mv (.c (.bool false)), none⟩] [] [] [(3, 0, none)])
  (.drop [4, 5, 8, 17] []))
  (.ret))
  (.skip)))
 (.seq (.seq (.reg [⟨.mv (.s 5), none⟩,
   ⟨.call .val n_rel_Rel_Close [(.r 0)], none⟩,
   ⟨.mv (.r 1), none⟩] [] [] [(9, 2, none)])
 (.drop [17] []))
 (.seq (.reg [⟨.mv (.s 9), none⟩,
   ⟨.call .val n_rel_Rel_Close [(.r 0)], none⟩,
   ⟨.mv (.r 1), none⟩] [] [] [(10, 2, none)])
 (.seq (.reg [⟨.mv (.c (.bool false)), none⟩] [] [] [(11, 0, none)])
 (.seq (.seq (.reg [⟨.mv (.c (.int .i64 0)), none⟩] [] [] [(12, 0, none)])
 (.block 0 (.loop ir_undertowlaw19_RelMeetsl1)))
 (.seq (.seq (.reg [⟨.call .val n_undertowlaw19_alive [], none⟩,
   ⟨.mv (.r 0), none⟩,
   ⟨.mv (.s 11), some (1, true)⟩,
   ⟨.mv (.s 8), some (1, true)⟩,
   ⟨.eqb true (.r 2) (.r 3), some (1, true)⟩,
   ⟨.pick (.r 1) (.r 4) (.c (.bool false)), none⟩,
   ⟨.mv (.r 5), none⟩] [] [] [(3, 6, none)])
 (.drop [4, 5, 8, 9, 10, 11, 12, 18] []))
 (.ret)))))))))))))⟩
/-- 7: undertow/undertowlaw19.alive -/
def h7 : Vm.Hint := ⟨[0, 1, 2, 3, 4, 6], [], [], [[0], [1, 0], [0, 1, 0], [0, 0, 0, 0, 0, 0, 0], [0, 1], [0, 0, 0, 0, 0, 0, 0], [0, 0, 0, 0, 0, 0, 0, 0, 0, 0, 0, 0, 0, 0, 0, 0, 0, 0, 0, 0, 0, 0, 0, 0, 0, 0, 0, 0, 0, 0, 0, 0, 0, 0, 0, 0, 0, 0, 0]], [([0], []), ([], []), ([], []), ([], []), ([], []), ([], []), ([1, 2, 3, 4, 5], [])], []⟩
def ir_undertowlaw19_alive : Vm.Fn := ⟨[0, 1, 2, 3, 4, 6], 0, 0, [.slot 0],
 .seq (.seq (.reg [⟨.mv (.c (.bool false)), none⟩] [] [] [(0, 0, none)])
 (.drop [0] []))
 (.seq (.reg [⟨.call .heap n_rel_New [(.c (.int .i64 3))], none⟩,
   ⟨.mv (.r 0), none⟩] [] [] [(1, 1, none)])
 (.seq (.reg [⟨.mv (.s 1), none⟩,
   ⟨.call .heap n_rel_Rel_Add [(.r 0), (.c (.int .i64 2)), (.c (.int .i64 0))], none⟩,
   ⟨.mv (.r 1), none⟩] [] [] [(2, 2, none)])
 (.seq (.reg [⟨.mv (.s 1), none⟩,
   ⟨.call .val n_rel_Rel_Order [(.r 0)], none⟩,
   ⟨.mv (.r 1), none⟩,
   ⟨.ext (.r 2) 0, none⟩,
   ⟨.ext (.r 2) 1, none⟩,
   ⟨.mv (.r 3), none⟩,
   ⟨.mv (.r 4), none⟩] [] [] [(3, 5, none), (4, 6, none)])
 (.seq (.reg [⟨.mv (.s 1), none⟩,
   ⟨.call .heap n_rel_Rel_Add [(.r 0), (.c (.int .i64 0)), (.c (.int .i64 2))], none⟩] [] [] [])
 (.seq (.reg [⟨.mv (.s 1), none⟩,
   ⟨.call .val n_rel_Rel_Order [(.r 0)], none⟩,
   ⟨.mv (.r 1), none⟩,
   ⟨.ext (.r 2) 0, none⟩,
   ⟨.ext (.r 2) 1, none⟩,
   ⟨.mv (.r 3), none⟩,
   ⟨.mv (.r 4), none⟩] [] [] [(5, 6, none)])
 (.seq (.seq (.reg [⟨.mv (.s 2), none⟩,
   ⟨.mv (.r 0), none⟩,
   ⟨.mv (.s 4), some (1, true)⟩,
   ⟨.pick (.r 1) (.r 2) (.c (.bool false)), none⟩,
   ⟨.mv (.r 3), none⟩,
   ⟨.mv (.s 5), some (4, true)⟩,
   ⟨.un .not (.r 5), some (4, true)⟩,
   ⟨.pick (.r 4) (.r 6) (.c (.bool false)), none⟩,
   ⟨.mv (.r 7), none⟩,
   ⟨.mv (.s 3), some (8, true)⟩,
   ⟨.lit 0 1 [[.int .i64 0], [.int .i64 0], [.int .i64 0]] [(0, (.c (.int .i64 1))), (1, (.c (.int .i64 2))), (2, (.c (.int .i64 0)))], some (8, true)⟩,
   ⟨.call .val n_undertowref02_SameInts [(.r 9), (.r 10)], some (8, true)⟩,
   ⟨.pick (.r 8) (.r 11) (.c (.bool false)), none⟩,
   ⟨.mv (.r 12), none⟩,
   ⟨.mv (.s 1), some (13, true)⟩,
   ⟨.call .val n_rel_Rel_Has [(.r 14), (.c (.int .i64 2)), (.c (.int .i64 0))], some (13, true)⟩,
   ⟨.pick (.r 13) (.r 15) (.c (.bool false)), none⟩,
   ⟨.mv (.r 16), none⟩,
   ⟨.mv (.s 1), some (17, true)⟩,
   ⟨.call .val n_rel_Rel_Has [(.r 18), (.c (.int .i64 0)), (.c (.int .i64 1))], some (17, true)⟩,
   ⟨.un .not (.r 19), some (17, true)⟩,
   ⟨.pick (.r 17) (.r 20) (.c (.bool false)), none⟩,
   ⟨.mv (.r 21), none⟩,
   ⟨.mv (.s 1), some (22, true)⟩,
   ⟨.call .val n_rel_Rel_Close [(.r 23)], some (22, true)⟩,
   ⟨.call .val n_rel_Rel_Has [(.r 24), (.c (.int .i64 2)), (.c (.int .i64 2))], some (22, true)⟩,
   ⟨.pick (.r 22) (.r 25) (.c (.bool false)), none⟩,
   ⟨.mv (.r 26), none⟩,
   ⟨.mv (.s 1), some (27, true)⟩,
   ⟨.call .val n_rel_Rel_Pairs [(.r 28)], some (27, true)⟩,
   ⟨.len 1 (.r 29), some (27, true)⟩,
   ⟨.bin .eql (.r 30) (.c (.int .i64 2)), some (27, true)⟩,
   ⟨.pick (.r 27) (.r 31) (.c (.bool false)), none⟩,
   ⟨.mv (.r 32), none⟩,
   ⟨.mv (.s 1), some (33, true)⟩,
   ⟨.call .val n_rel_Rel_Len [(.r 34)], some (33, true)⟩,
   ⟨.bin .eql (.r 35) (.c (.int .i64 3)), some (33, true)⟩,
   ⟨.pick (.r 33) (.r 36) (.c (.bool false)), none⟩,
   ⟨.mv (.r 37), none⟩] [] [] [(0, 38, none)])
 (.drop [1, 2, 3, 4, 5] []))
 (.ret)))))))⟩
/-- 8: undertow/undertowlaw19.both -/
def h8 : Vm.Hint := ⟨[0, 1, 4, 5, 6, 7, 8, 9, 10, 11, 12, 20, 54, 55], [], [], [[0, 0, 0], [0, 1, 0, 1, 0, 0], [0], [0, 0, 0, 0], [0, 0, 0], [0, 0, 0, 0, 0, 0, 0, 0, 0, 0, 0, 0], [0, 0, 0, 0, 0, 0, 0, 0, 0, 0, 0, 0, 0, 0, 0, 0, 0], [0, 0, 0, 1, 0, 0], [0, 0, 0], [0], [0, 0, 0, 0, 0, 0, 0], [0, 0, 0, 0, 0]], [([2, 3, 4], []), ([], []), ([], []), ([], []), ([8, 9, 13], []), ([11], []), ([], []), ([], []), ([0, 1, 5, 6, 7, 8, 9, 10, 12], []), ([10, 12], []), ([8, 9, 13], []), ([0, 1, 5, 6, 7, 11], [])], []⟩
def ir_undertowlaw19_bothl0 : C :=
 .seq (.seq (.reg [⟨.mv (.s 7), none⟩,
   ⟨.mv (.s 1), none⟩,
   ⟨.len 1 (.r 1), none⟩,
   ⟨.bin .lss (.r 0) (.r 2), none⟩] [] [] [(11, 3, none)])
 (.cond (.s 11) (.skip)
  (.exit 0)))
 (.seq (.block 1 (.seq (.seq (.reg [⟨.mv (.s 1), none⟩,
    ⟨.mv (.s 7), none⟩,
    ⟨.iaS 2 (.r 0) (.r 1), none⟩,
    ⟨.iaA 2 1 (.r 2) (.c (.int .i64 0)), none⟩,
    ⟨.load 0 false 1 (.r 3), none⟩,
    ⟨.mv (.s 1), none⟩,
    ⟨.mv (.s 7), none⟩,
    ⟨.iaS 2 (.r 5) (.r 6), none⟩,
    ⟨.iaA 2 1 (.r 7) (.c (.int .i64 1)), none⟩,
    ⟨.load 0 false 1 (.r 8), none⟩,
    ⟨.mv (.r 4), none⟩,
    ⟨.mv (.r 9), none⟩] [] [(2, 7), (2, 9), (4, 7), (4, 9)] [(8, 10, none), (9, 11, none)])
  (.drop [11] []))
  (.seq (.reg [⟨.mv (.s 8), none⟩,
    ⟨.bin .geq (.r 0) (.c (.int .i64 0)), none⟩,
    ⟨.mv (.r 1), none⟩,
    ⟨.mv (.s 8), some (2, true)⟩,
    ⟨.mv (.s 0), some (2, true)⟩,
    ⟨.bin .lss (.r 3) (.r 4), some (2, true)⟩,
    ⟨.pick (.r 2) (.r 5) (.c (.bool false)), none⟩,
    ⟨.mv (.r 6), none⟩,
    ⟨.mv (.s 9), some (7, true)⟩,
    ⟨.bin .geq (.r 8) (.c (.int .i64 0)), some (7, true)⟩,
    ⟨.pick (.r 7) (.r 9) (.c (.bool false)), none⟩,
    ⟨.mv (.r 10), none⟩,
    ⟨.mv (.s 9), some (11, true)⟩,
    ⟨.mv (.s 0), some (11, true)⟩,
    ⟨.bin .lss (.r 12) (.r 13), some (11, true)⟩,
    ⟨.pick (.r 11) (.r 14) (.c (.bool false)), none⟩,
    ⟨.mv (.r 15), none⟩] [] [] [(10, 16, none)])
  (.seq (.seq (.reg [⟨.mv (.s 5), none⟩,
    ⟨.mv (.s 8), none⟩,
    ⟨.mv (.s 9), none⟩,
    ⟨.call .heap n_rel_Rel_Add [(.r 0), (.r 1), (.r 2)], none⟩,
    ⟨.mv (.s 10), none⟩,
    ⟨.eqb true (.r 3) (.r 4), none⟩] [] [] [(12, 5, none)])
  (.cond (.s 12) (.seq (.seq (.reg [⟨.mv (.c (.nilp)), none⟩,
     ⟨.mv (.c (.nils)), none⟩,
     ⟨.mv (.c (.bool false)), none⟩] [] [] [(2, 0, none), (3, 1, none), (4, 2, none)])
   (.drop [0, 1, 5, 6, 7, 8, 9, 10, 12] []))
   (.ret))
   (.skip)))
  (.seq (.seq (.reg [⟨.mv (.s 10), none⟩] [] [] [(13, 0, none)])
  (.drop [10, 12] []))
  (.cond (.s 13) (.seq (.reg [⟨.mv (.s 6), none⟩,
     ⟨.mv (.s 8), none⟩,
     ⟨.iaS 1 (.r 0) (.r 1), none⟩,
     ⟨.load 0 false 1 (.r 2), none⟩,
     ⟨.mv (.s 9), none⟩,
     ⟨.iaS 1 (.r 3) (.r 4), none⟩,
     ⟨.store 0 1 (.r 5) (.c (.bool true)), none⟩] [] [] [])
   (.drop [8, 9, 13] []))
   (.skip)))))))
 (.seq (.reg [⟨.mv (.s 7), none⟩,
   ⟨.bin .add (.r 0) (.c (.int .i64 1)), none⟩,
   ⟨.mv (.r 1), none⟩] [] [] [(7, 2, none)])
 (.drop [8, 9, 13] [])))
def ir_undertowlaw19_both : Vm.Fn := ⟨[0, 1, 4, 5, 6, 7, 8, 9, 10, 11, 12, 20, 54, 55], 0, 0, [.slot 2, .slot 3, .slot 4],
 .seq (.seq (.reg [⟨.mv (.c (.nilp)), none⟩,
   ⟨.mv (.c (.nils)), none⟩,
   ⟨.mv (.c (.bool false)), none⟩] [] [] [(2, 0, none), (3, 1, none), (4, 2, none)])
 (.drop [2, 3, 4] []))
 (.seq (.reg [⟨.mv (.s 0), none⟩,
   ⟨.call .heap n_rel_New [(.r 0)], none⟩,
   ⟨.mv (.s 0), none⟩,
   ⟨.call .heap n_undertowref19_New [(.r 2)], none⟩,
   ⟨.mv (.r 1), none⟩,
   ⟨.mv (.r 3), none⟩] [] [] [(5, 4, none), (6, 5, none)])
 (.seq (.seq (.reg [⟨.mv (.c (.int .i64 0)), none⟩] [] [] [(7, 0, none)])
 (.block 0 (.loop ir_undertowlaw19_bothl0)))
 (.seq (.seq (.reg [⟨.mv (.s 5), none⟩,
   ⟨.mv (.s 6), none⟩,
   ⟨.mv (.r 0), none⟩,
   ⟨.mv (.r 1), none⟩,
   ⟨.mv (.c (.bool true)), none⟩] [] [] [(2, 2, none), (3, 3, none), (4, 4, none)])
 (.drop [0, 1, 5, 6, 7, 11] []))
 (.ret))))⟩
/-- 9: undertow/undertowlaw19.same -/
def h9 : Vm.Hint := ⟨[0, 1, 4, 5, 6, 7, 8, 9, 13, 19, 28, 46, 60, 64, 75], [], [5], [[0], [1], [0], [0, 0, 0, 0], [0, 0, 0], [0], [0, 0, 0, 0], [0, 0, 0], [0, 0, 0, 0, 0, 0, 0], [0, 0, 0, 0, 1, 2, 0], [0, 0, 0, 0, 0, 0, 0, 0, 0, 0, 0, 0], [0], [0, 0, 0], [0, 0, 0, 0, 0, 0, 0, 0, 0, 0, 0, 0], [0], [0], [0, 0, 0, 0], [0, 0, 0], [0, 0, 0, 0, 0, 0, 0, 0, 0], [0], [0]], [([2], []), ([], []), ([], []), ([], []), ([5, 9], []), ([8], []), ([], []), ([11], []), ([9], []), ([10], []), ([10], []), ([0, 1, 3, 4, 5, 11], [(false, 0)]), ([4, 8], []), ([0, 1], []), ([3, 6, 12], [(false, 0)]), ([12], []), ([], []), ([14], []), ([13], []), ([3, 6, 7, 14], [(false, 0)]), ([3, 6, 7, 13], [(false, 0)])], []⟩
def ir_undertowlaw19_samel0 : C :=
 .seq (.seq (.reg [⟨.mv (.s 5), none⟩,
   ⟨.mv (.s 1), none⟩,
   ⟨.len 1 (.r 1), none⟩,
   ⟨.bin .lss (.r 0) (.r 2), none⟩] [] [] [(9, 3, none)])
 (.cond (.s 9) (.skip)
  (.exit 2)))
 (.seq (.block 3 (.seq (.seq (.seq (.reg [⟨.mv (.s 1), none⟩,
    ⟨.mv (.s 4), none⟩,
    ⟨.iaS 1 (.r 0) (.r 1), none⟩,
    ⟨.load 0 false 1 (.r 2), none⟩,
    ⟨.mv (.s 5), none⟩,
    ⟨.iaS 1 (.r 3) (.r 4), none⟩,
    ⟨.load 0 false 1 (.r 5), none⟩] [] [] [(10, 6, none)])
  (.drop [9] []))
  (.cond (.s 10) (.seq (.reg [⟨.mv (.s 3), none⟩,
     ⟨.mv (.s 4), none⟩,
     ⟨.mv (.s 5), none⟩,
     ⟨.build [.int .i64 0, .int .i64 0] [(0, 1, (.r 1)), (1, 1, (.r 2))], none⟩,
     ⟨.lit 1 2 [[.int .i64 0, .int .i64 0]] [(0, (.r 3))], none⟩,
     ⟨.app 2 2 16 (.r 0) (.r 4), none⟩,
     ⟨.mv (.r 5), none⟩] [] [] [(3, 6, some 0)])
   (.drop [10] []))
   (.skip)))
  (.seq (.seq (.reg [⟨.mv (.s 0), none⟩,
    ⟨.mv (.s 4), none⟩,
    ⟨.mv (.s 5), none⟩,
    ⟨.call .val n_rel_Rel_Has [(.r 0), (.r 1), (.r 2)], none⟩,
    ⟨.mv (.s 1), none⟩,
    ⟨.mv (.s 4), none⟩,
    ⟨.iaS 1 (.r 4) (.r 5), none⟩,
    ⟨.load 0 false 1 (.r 6), none⟩,
    ⟨.mv (.s 5), none⟩,
    ⟨.iaS 1 (.r 7) (.r 8), none⟩,
    ⟨.load 0 false 1 (.r 9), none⟩,
    ⟨.eqb true (.r 3) (.r 10), none⟩] [] [(3, 6), (3, 7), (3, 9), (3, 10)] [(11, 11, none)])
  (.drop [10] []))
  (.cond (.s 11) (.seq (.seq (.reg [⟨.mv (.c (.bool false)), none⟩] [] [] [(2, 0, none)])
   (.drop [0, 1, 3, 4, 5, 11] [(false, 0)]))
   (.ret))
   (.skip)))))
 (.seq (.reg [⟨.mv (.s 5), none⟩,
   ⟨.bin .add (.r 0) (.c (.int .i64 1)), none⟩,
   ⟨.mv (.r 1), none⟩] [] [] [(5, 2, none)])
 (.drop [11] [])))
def ir_undertowlaw19_samel1 : C :=
 .seq (.seq (.reg [⟨.mv (.s 4), none⟩,
   ⟨.mv (.s 1), none⟩,
   ⟨.len 1 (.r 1), none⟩,
   ⟨.bin .lss (.r 0) (.r 2), none⟩] [] [] [(8, 3, none)])
 (.cond (.s 8) (.skip)
  (.exit 0)))
 (.seq (.block 1 (.seq (.seq (.reg [⟨.mv (.c (.int .i64 0)), none⟩] [] [] [(5, 0, none)])
  (.drop [8] []))
  (.block 2 (.loop ir_undertowlaw19_samel0))))
 (.seq (.reg [⟨.mv (.s 4), none⟩,
   ⟨.bin .add (.r 0) (.c (.int .i64 1)), none⟩,
   ⟨.mv (.r 1), none⟩] [] [] [(4, 2, none)])
 (.drop [5, 9] [])))
def ir_undertowlaw19_samel2 : C :=
 .seq (.seq (.reg [⟨.mv (.s 7), none⟩,
   ⟨.mv (.s 6), none⟩,
   ⟨.len 1 (.r 1), none⟩,
   ⟨.bin .lss (.r 0) (.r 2), none⟩] [] [] [(13, 3, none)])
 (.cond (.s 13) (.skip)
  (.exit 4)))
 (.seq (.block 5 (.seq (.seq (.reg [⟨.mv (.s 6), none⟩,
    ⟨.mv (.s 7), none⟩,
    ⟨.iaS 2 (.r 0) (.r 1), none⟩,
    ⟨.load 0 true 2 (.r 2), none⟩,
    ⟨.mv (.s 3), none⟩,
    ⟨.mv (.s 7), none⟩,
    ⟨.iaS 2 (.r 4) (.r 5), none⟩,
    ⟨.load 0 true 2 (.r 6), none⟩,
    ⟨.eqa true [.int, .int] (.r 3) (.r 7), none⟩] [] [(2, 6), (2, 7), (3, 6), (3, 7)] [(14, 8, none)])
  (.drop [13] []))
  (.cond (.s 14) (.seq (.seq (.reg [⟨.mv (.c (.bool false)), none⟩] [] [] [(2, 0, none)])
   (.drop [3, 6, 7, 14] [(false, 0)]))
   (.ret))
   (.skip))))
 (.seq (.reg [⟨.mv (.s 7), none⟩,
   ⟨.bin .add (.r 0) (.c (.int .i64 1)), none⟩,
   ⟨.mv (.r 1), none⟩] [] [] [(7, 2, none)])
 (.drop [14] [])))
def ir_undertowlaw19_same : Vm.Fn := ⟨[0, 1, 4, 5, 6, 7, 8, 9, 13, 19, 28, 46, 60, 64, 75], 0, 1, [.slot 2],
 .seq (.seq (.reg [⟨.mv (.c (.bool false)), none⟩] [] [] [(2, 0, none)])
 (.drop [2] []))
 (.seq (.reg [⟨.onil 0, none⟩] [(false, 0)] [] [(3, 0, some 0)])
 (.seq (.seq (.reg [⟨.mv (.c (.int .i64 0)), none⟩] [] [] [(4, 0, none)])
 (.block 0 (.loop ir_undertowlaw19_samel1)))
 (.seq (.seq (.reg [⟨.mv (.s 0), none⟩,
   ⟨.call .val n_rel_Rel_Pairs [(.r 0)], none⟩,
   ⟨.mv (.r 1), none⟩] [] [] [(6, 2, none)])
 (.drop [4, 8] []))
 (.seq (.seq (.seq (.reg [⟨.mv (.s 6), none⟩,
   ⟨.len 1 (.r 0), none⟩,
   ⟨.mv (.s 3), none⟩,
   ⟨.len 1 (.r 2), none⟩,
   ⟨.bin .neq (.r 1) (.r 3), none⟩,
   ⟨.mv (.r 4), none⟩,
   ⟨.mv (.s 0), some (5, false)⟩,
   ⟨.call .val n_rel_Rel_Len [(.r 6)], some (5, false)⟩,
   ⟨.mv (.s 1), some (5, false)⟩,
   ⟨.len 1 (.r 8), some (5, false)⟩,
   ⟨.bin .neq (.r 7) (.r 9), some (5, false)⟩,
   ⟨.pick (.r 5) (.c (.bool true)) (.r 10), none⟩] [] [] [(12, 11, none)])
 (.drop [0, 1] []))
 (.cond (.s 12) (.seq (.seq (.reg [⟨.mv (.c (.bool false)), none⟩] [] [] [(2, 0, none)])
  (.drop [3, 6, 12] [(false, 0)]))
  (.ret))
  (.skip)))
 (.seq (.seq (.seq (.reg [⟨.mv (.c (.int .i64 0)), none⟩] [] [] [(7, 0, none)])
 (.drop [12] []))
 (.block 4 (.loop ir_undertowlaw19_samel2)))
 (.seq (.seq (.reg [⟨.mv (.c (.bool true)), none⟩] [] [] [(2, 0, none)])
 (.drop [3, 6, 7, 13] [(false, 0)]))
 (.ret)))))))⟩
/-- 10: (*undertow/rel.Rel).Close -/
def h10 : Vm.Hint := ⟨[0, 2, 3, 4, 5, 7, 9, 21, 22, 23, 32, 33, 34, 35, 57], [], [], [[0], [0, 0], [0], [0, 0, 1, 0], [0, 0, 0, 1], [0, 0, 0, 0, 0, 0], [0], [0, 0], [0], [0, 0, 0, 0, 0, 0, 0, 0, 0, 0], [0], [0, 0, 0], [0, 0, 0, 0, 0, 0, 0, 0, 0, 0, 0, 0, 0, 0, 1, 0, 0, 0, 0], [0, 0], [0], [0, 0], [0, 0]], [([1], []), ([], []), ([0, 6], []), ([6], []), ([0], []), ([14], []), ([], []), ([9], []), ([], []), ([], []), ([], []), ([13], []), ([5], []), ([], []), ([3, 4, 10, 11, 12, 13], []), ([14], []), ([2, 7, 8, 9], [])], []⟩
def ir_rel_Rel_Closel0 : C :=
 .seq (.reg [⟨.bin .lss (.s 12) (.s 11), none⟩] [] [] [(13, 0, none)])
 (.seq (.cond (.s 13) (.skip)
  (.exit 4))
 (.seq (.block 5 (.seq (.seq (.reg [⟨.iaS 1 (.s 10) (.s 12), none⟩,
    ⟨.load 0 false 1 (.r 0), none⟩,
    ⟨.mv (.r 1), none⟩] [] [] [(5, 2, none)])
  (.drop [13] []))
  (.seq (.reg [⟨.mv (.s 2), none⟩,
    ⟨.nilck (.r 0), none⟩,
    ⟨.off 0 (.r 1), none⟩,
    ⟨.load 0 false 1 (.r 2), none⟩,
    ⟨.mv (.s 3), none⟩,
    ⟨.iaS 1 (.r 3) (.r 4), none⟩,
    ⟨.load 0 false 1 (.r 5), none⟩,
    ⟨.mv (.s 2), none⟩,
    ⟨.nilck (.r 7), none⟩,
    ⟨.off 0 (.r 8), none⟩,
    ⟨.load 0 false 1 (.r 9), none⟩,
    ⟨.mv (.s 5), none⟩,
    ⟨.iaS 1 (.r 10) (.r 11), none⟩,
    ⟨.load 0 false 1 (.r 12), none⟩,
    ⟨.call .heap n_rel_row_join [(.r 6), (.r 13)], none⟩,
    ⟨.mv (.r 14), none⟩,
    ⟨.mv (.s 4), some (15, false)⟩,
    ⟨.pick (.r 15) (.c (.bool true)) (.r 16), none⟩,
    ⟨.mv (.r 17), none⟩] [] [(3, 10), (3, 12), (3, 13), (5, 10), (5, 12), (5, 13), (6, 10), (6, 12), (6, 13)] [(4, 18, none)])
  (.drop [5] []))))
 (.reg [⟨.bin .add (.s 12) (.c (.int .i64 1)), none⟩,
   ⟨.mv (.r 0), none⟩] [] [] [(12, 1, none)])))
def ir_rel_Rel_Closel1 : C :=
 .seq (.reg [⟨.bin .lss (.s 8) (.s 7), none⟩] [] [] [(9, 0, none)])
 (.seq (.cond (.s 9) (.skip)
  (.exit 2))
 (.seq (.block 3 (.seq (.seq (.reg [⟨.mv (.s 8), none⟩,
    ⟨.mv (.r 0), none⟩] [] [] [(3, 1, none)])
  (.drop [9] []))
  (.seq (.reg [⟨.mv (.c (.bool false)), none⟩] [] [] [(4, 0, none)])
  (.seq (.seq (.reg [⟨.mv (.s 2), none⟩,
    ⟨.nilck (.r 0), none⟩,
    ⟨.off 0 (.r 1), none⟩,
    ⟨.load 0 false 1 (.r 2), none⟩,
    ⟨.mv (.s 3), none⟩,
    ⟨.iaS 1 (.r 3) (.r 4), none⟩,
    ⟨.load 0 false 1 (.r 5), none⟩,
    ⟨.call .val n_rel_row_each [(.r 6)], none⟩,
    ⟨.len 1 (.r 7), none⟩,
    ⟨.mv (.c (.int .i64 0)), none⟩] [] [] [(10, 7, none), (11, 8, none), (12, 9, none)])
  (.block 4 (.loop ir_rel_Rel_Closel0)))
  (.seq (.seq (.reg [⟨.mv (.s 4), none⟩] [] [] [(14, 0, none)])
  (.drop [3, 4, 10, 11, 12, 13] []))
  (.cond (.s 14) (.exit 1)
   (.skip)))))))
 (.seq (.reg [⟨.bin .add (.s 8) (.c (.int .i64 1)), none⟩,
   ⟨.mv (.r 0), none⟩] [] [] [(8, 1, none)])
 (.drop [14] []))))
def ir_rel_Rel_Closel2 : C :=
 .block 1 (.seq (.seq (.seq (.reg [⟨.mv (.s 2), none⟩,
    ⟨.nilck (.r 0), none⟩,
    ⟨.off 0 (.r 1), none⟩,
    ⟨.load 0 false 1 (.r 2), none⟩,
    ⟨.len 1 (.r 3), none⟩,
    ⟨.mv (.c (.int .i64 0)), none⟩] [] [] [(7, 4, none), (8, 5, none)])
  (.drop [14] []))
  (.block 2 (.loop ir_rel_Rel_Closel1)))
  (.exit 0))
def ir_rel_Rel_Close : Vm.Fn := ⟨[0, 2, 3, 4, 5, 7, 9, 21, 22, 23, 32, 33, 34, 35, 57], 0, 0, [.slot 1],
 .seq (.seq (.reg [⟨.mv (.c (.nilp)), none⟩] [] [] [(1, 0, none)])
 (.drop [1] []))
 (.seq (.seq (.reg [⟨.mv (.s 0), none⟩,
   ⟨.eqn .ptr false (.r 0) (.c (.nilp)), none⟩] [] [] [(6, 1, none)])
 (.cond (.s 6) (.seq (.seq (.reg [⟨.mv (.c (.nilp)), none⟩] [] [] [(1, 0, none)])
  (.drop [0, 6] []))
  (.ret))
  (.skip)))
 (.seq (.seq (.reg [⟨.mv (.s 0), none⟩,
   ⟨.call .val n_rel_Rel_Len [(.r 0)], none⟩,
   ⟨.call .heap n_rel_New [(.r 1)], none⟩,
   ⟨.mv (.r 2), none⟩] [] [] [(2, 3, none)])
 (.drop [6] []))
 (.seq (.seq (.reg [⟨.mv (.s 2), none⟩,
   ⟨.mv (.s 0), none⟩,
   ⟨.lit 0 1 [[.nilp]] [(0, (.r 1))], none⟩,
   ⟨.call .heap n_rel_Rel_Join [(.r 0), (.r 2)], none⟩] [] [] [])
 (.drop [0] []))
 (.seq (.block 0 (.loop ir_rel_Rel_Closel2))
 (.seq (.seq (.reg [⟨.mv (.s 2), none⟩,
   ⟨.mv (.r 0), none⟩] [] [] [(1, 1, none)])
 (.drop [2, 7, 8, 9] []))
 (.ret))))))⟩
/-- 11: undertow/undertowref19.Close -/
def h11 : Vm.Hint := ⟨[0, 2, 3, 4, 5, 6, 7, 8, 15, 21, 40, 46, 61], [], [], [[0], [0, 0, 1, 0], [0], [0, 0, 0, 0], [0, 0, 0], [0], [0, 0, 0, 0], [0, 0, 0], [0, 0, 0, 0, 0, 0, 0, 0, 0, 0, 0, 0, 0, 0], [0], [0, 0, 0, 0], [0, 0, 0], [0], [0, 0, 0, 0], [0, 0, 0], [0], [0, 0, 0, 0, 0, 0, 0, 0, 0, 0, 0, 0, 0], [0, 0, 0], [0, 0, 0, 0, 0, 0, 0, 0, 0, 0, 0, 0, 0, 0, 0, 0, 0, 0, 0, 0, 0, 0, 0], [0, 0]], [([1], []), ([], []), ([], []), ([], []), ([4, 9], []), ([8], []), ([], []), ([], []), ([9], []), ([0, 3, 8], []), ([], []), ([6, 11], []), ([10], []), ([], []), ([7, 12], []), ([11], []), ([], []), ([], []), ([12], []), ([2, 5, 10], [])], []⟩
def ir_undertowref19_Closel0 : C :=
 .seq (.seq (.reg [⟨.mv (.s 4), none⟩,
   ⟨.mv (.s 0), none⟩,
   ⟨.len 1 (.r 1), none⟩,
   ⟨.bin .lss (.r 0) (.r 2), none⟩] [] [] [(9, 3, none)])
 (.cond (.s 9) (.skip)
  (.exit 2)))
 (.seq (.block 3 (.seq (.reg [⟨.mv (.s 2), none⟩,
    ⟨.mv (.s 3), none⟩,
    ⟨.iaS 1 (.r 0) (.r 1), none⟩,
    ⟨.load 0 false 1 (.r 2), none⟩,
    ⟨.mv (.s 4), none⟩,
    ⟨.mv (.s 0), none⟩,
    ⟨.mv (.s 3), none⟩,
    ⟨.iaS 1 (.r 5) (.r 6), none⟩,
    ⟨.load 0 false 1 (.r 7), none⟩,
    ⟨.mv (.s 4), none⟩,
    ⟨.iaS 1 (.r 8) (.r 9), none⟩,
    ⟨.load 0 false 1 (.r 10), none⟩,
    ⟨.iaS 1 (.r 3) (.r 4), none⟩,
    ⟨.store 0 1 (.r 12) (.r 11), none⟩] [] [(2, 7), (2, 8), (2, 10), (2, 11), (3, 7), (3, 8), (3, 10), (3, 11)] [])
  (.drop [9] [])))
 (.reg [⟨.mv (.s 4), none⟩,
   ⟨.bin .add (.r 0) (.c (.int .i64 1)), none⟩,
   ⟨.mv (.r 1), none⟩] [] [] [(4, 2, none)]))
def ir_undertowref19_Closel1 : C :=
 .seq (.seq (.reg [⟨.mv (.s 3), none⟩,
   ⟨.mv (.s 0), none⟩,
   ⟨.len 1 (.r 1), none⟩,
   ⟨.bin .lss (.r 0) (.r 2), none⟩] [] [] [(8, 3, none)])
 (.cond (.s 8) (.skip)
  (.exit 0)))
 (.seq (.block 1 (.seq (.seq (.reg [⟨.mv (.c (.int .i64 0)), none⟩] [] [] [(4, 0, none)])
  (.drop [8] []))
  (.block 2 (.loop ir_undertowref19_Closel0))))
 (.seq (.reg [⟨.mv (.s 3), none⟩,
   ⟨.bin .add (.r 0) (.c (.int .i64 1)), none⟩,
   ⟨.mv (.r 1), none⟩] [] [] [(3, 2, none)])
 (.drop [4, 9] [])))
def ir_undertowref19_Closel2 : C :=
 .seq (.seq (.reg [⟨.mv (.s 7), none⟩,
   ⟨.mv (.s 2), none⟩,
   ⟨.len 1 (.r 1), none⟩,
   ⟨.bin .lss (.r 0) (.r 2), none⟩,
   ⟨.mv (.r 3), none⟩,
   ⟨.mv (.s 2), some (4, true)⟩,
   ⟨.mv (.s 6), some (4, true)⟩,
   ⟨.iaS 1 (.r 5) (.r 6), some (4, true)⟩,
   ⟨.load 0 false 1 (.r 7), some (4, true)⟩,
   ⟨.mv (.s 5), some (4, true)⟩,
   ⟨.iaS 1 (.r 8) (.r 9), some (4, true)⟩,
   ⟨.load 0 false 1 (.r 10), some (4, true)⟩,
   ⟨.pick (.r 4) (.r 11) (.c (.bool false)), none⟩] [] [] [(12, 12, none)])
 (.cond (.s 12) (.skip)
  (.exit 8)))
 (.seq (.block 9 (.seq (.reg [⟨.mv (.s 2), none⟩,
    ⟨.mv (.s 6), none⟩,
    ⟨.iaS 1 (.r 0) (.r 1), none⟩,
    ⟨.load 0 false 1 (.r 2), none⟩,
    ⟨.mv (.s 7), none⟩,
    ⟨.mv (.s 2), none⟩,
    ⟨.mv (.s 6), none⟩,
    ⟨.iaS 1 (.r 5) (.r 6), none⟩,
    ⟨.load 0 false 1 (.r 7), none⟩,
    ⟨.mv (.s 7), none⟩,
    ⟨.iaS 1 (.r 8) (.r 9), none⟩,
    ⟨.load 0 false 1 (.r 10), none⟩,
    ⟨.mv (.r 11), none⟩,
    ⟨.mv (.s 2), some (12, false)⟩,
    ⟨.mv (.s 5), some (12, false)⟩,
    ⟨.iaS 1 (.r 13) (.r 14), some (12, false)⟩,
    ⟨.load 0 false 1 (.r 15), some (12, false)⟩,
    ⟨.mv (.s 7), some (12, false)⟩,
    ⟨.iaS 1 (.r 16) (.r 17), some (12, false)⟩,
    ⟨.load 0 false 1 (.r 18), some (12, false)⟩,
    ⟨.pick (.r 12) (.c (.bool true)) (.r 19), none⟩,
    ⟨.iaS 1 (.r 3) (.r 4), none⟩,
    ⟨.store 0 1 (.r 21) (.r 20), none⟩] [] [(2, 7), (2, 8), (2, 10), (2, 11), (2, 15), (2, 16), (2, 18), (2, 19), (3, 7), (3, 8), (3, 10), (3, 11), (3, 15), (3, 16), (3, 18), (3, 19)] [])
  (.drop [12] [])))
 (.reg [⟨.mv (.s 7), none⟩,
   ⟨.bin .add (.r 0) (.c (.int .i64 1)), none⟩,
   ⟨.mv (.r 1), none⟩] [] [] [(7, 2, none)]))
def ir_undertowref19_Closel3 : C :=
 .seq (.seq (.reg [⟨.mv (.s 6), none⟩,
   ⟨.mv (.s 2), none⟩,
   ⟨.len 1 (.r 1), none⟩,
   ⟨.bin .lss (.r 0) (.r 2), none⟩] [] [] [(11, 3, none)])
 (.cond (.s 11) (.skip)
  (.exit 6)))
 (.seq (.block 7 (.seq (.seq (.reg [⟨.mv (.c (.int .i64 0)), none⟩] [] [] [(7, 0, none)])
  (.drop [11] []))
  (.block 8 (.loop ir_undertowref19_Closel2))))
 (.seq (.reg [⟨.mv (.s 6), none⟩,
   ⟨.bin .add (.r 0) (.c (.int .i64 1)), none⟩,
   ⟨.mv (.r 1), none⟩] [] [] [(6, 2, none)])
 (.drop [7, 12] [])))
def ir_undertowref19_Closel4 : C :=
 .seq (.seq (.reg [⟨.mv (.s 5), none⟩,
   ⟨.mv (.s 2), none⟩,
   ⟨.len 1 (.r 1), none⟩,
   ⟨.bin .lss (.r 0) (.r 2), none⟩] [] [] [(10, 3, none)])
 (.cond (.s 10) (.skip)
  (.exit 4)))
 (.seq (.block 5 (.seq (.seq (.reg [⟨.mv (.c (.int .i64 0)), none⟩] [] [] [(6, 0, none)])
  (.drop [10] []))
  (.block 6 (.loop ir_undertowref19_Closel3))))
 (.seq (.reg [⟨.mv (.s 5), none⟩,
   ⟨.bin .add (.r 0) (.c (.int .i64 1)), none⟩,
   ⟨.mv (.r 1), none⟩] [] [] [(5, 2, none)])
 (.drop [6, 11] [])))
def ir_undertowref19_Close : Vm.Fn := ⟨[0, 2, 3, 4, 5, 6, 7, 8, 15, 21, 40, 46, 61], 0, 0, [.slot 1],
 .seq (.seq (.reg [⟨.mv (.c (.nils)), none⟩] [] [] [(1, 0, none)])
 (.drop [1] []))
 (.seq (.reg [⟨.mv (.s 0), none⟩,
   ⟨.len 1 (.r 0), none⟩,
   ⟨.call .heap n_undertowref19_New [(.r 1)], none⟩,
   ⟨.mv (.r 2), none⟩] [] [] [(2, 3, none)])
 (.seq (.seq (.reg [⟨.mv (.c (.int .i64 0)), none⟩] [] [] [(3, 0, none)])
 (.block 0 (.loop ir_undertowref19_Closel1)))
 (.seq (.seq (.seq (.reg [⟨.mv (.c (.int .i64 0)), none⟩] [] [] [(5, 0, none)])
 (.drop [0, 3, 8] []))
 (.block 4 (.loop ir_undertowref19_Closel4)))
 (.seq (.seq (.reg [⟨.mv (.s 2), none⟩,
   ⟨.mv (.r 0), none⟩] [] [] [(1, 1, none)])
 (.drop [2, 5, 10] []))
 (.ret)))))⟩
/-- 12: (*undertow/rel.Rel).Has -/
def h12 : Vm.Hint := ⟨[0, 1, 2, 6], [], [], [[0], [0, 0, 0, 0, 0, 0, 0, 0, 0, 0, 0, 0, 0, 0, 0, 0, 0, 0, 0, 0]], [([3], []), ([0, 1, 2], [])], []⟩
def ir_rel_Rel_Has : Vm.Fn := ⟨[0, 1, 2, 6], 0, 0, [.slot 3],
 .seq (.seq (.reg [⟨.mv (.c (.bool false)), none⟩] [] [] [(3, 0, none)])
 (.drop [3] []))
 (.seq (.seq (.reg [⟨.mv (.s 0), none⟩,
   ⟨.mv (.s 1), none⟩,
   ⟨.call .val n_rel_Rel_is [(.r 0), (.r 1)], none⟩,
   ⟨.mv (.r 2), none⟩,
   ⟨.mv (.s 0), some (3, true)⟩,
   ⟨.mv (.s 2), some (3, true)⟩,
   ⟨.call .val n_rel_Rel_is [(.r 4), (.r 5)], some (3, true)⟩,
   ⟨.pick (.r 3) (.r 6) (.c (.bool false)), none⟩,
   ⟨.mv (.r 7), none⟩,
   ⟨.mv (.s 0), some (8, true)⟩,
   ⟨.nilck (.r 9), some (8, true)⟩,
   ⟨.off 0 (.r 10), some (8, true)⟩,
   ⟨.load 0 false 1 (.r 11), some (8, true)⟩,
   ⟨.mv (.s 1), some (8, true)⟩,
   ⟨.iaS 1 (.r 12) (.r 13), some (8, true)⟩,
   ⟨.load 0 false 1 (.r 14), some (8, true)⟩,
   ⟨.mv (.s 2), some (8, true)⟩,
   ⟨.call .val n_rel_row_has [(.r 15), (.r 16)], some (8, true)⟩,
   ⟨.pick (.r 8) (.r 17) (.c (.bool false)), none⟩,
   ⟨.mv (.r 18), none⟩] [] [] [(3, 19, none)])
 (.drop [0, 1, 2] []))
 (.ret))⟩
/-- 13: (*undertow/rel.Rel).Join -/
def h13 : Vm.Hint := ⟨[0, 1, 5, 6, 7, 8, 9, 10, 21, 26, 27, 28], [], [], [[0, 0, 0], [0], [0, 0, 0], [0, 0, 0, 0, 0, 0, 0, 0, 0], [0, 0, 0, 0, 0, 0], [0], [0, 0], [0, 0, 0, 0, 0, 0, 0, 0, 0, 0, 0, 0, 0, 0, 1], [0, 0], [0, 0]], [([1], []), ([], []), ([7], []), ([], []), ([8], []), ([], []), ([11], []), ([3], []), ([], []), ([2, 8, 9, 10, 11], [])], []⟩
def ir_rel_Rel_Joinl0 : C :=
 .seq (.reg [⟨.bin .lss (.s 10) (.s 9), none⟩] [] [] [(11, 0, none)])
 (.seq (.cond (.s 11) (.skip)
  (.exit 2))
 (.seq (.block 3 (.seq (.seq (.reg [⟨.mv (.s 10), none⟩,
    ⟨.mv (.r 0), none⟩] [] [] [(3, 1, none)])
  (.drop [11] []))
  (.seq (.reg [⟨.mv (.s 0), none⟩,
    ⟨.nilck (.r 0), none⟩,
    ⟨.off 0 (.r 1), none⟩,
    ⟨.load 0 false 1 (.r 2), none⟩,
    ⟨.mv (.s 3), none⟩,
    ⟨.iaS 1 (.r 3) (.r 4), none⟩,
    ⟨.load 0 false 1 (.r 5), none⟩,
    ⟨.mv (.s 2), none⟩,
    ⟨.nilck (.r 7), none⟩,
    ⟨.off 0 (.r 8), none⟩,
    ⟨.load 0 false 1 (.r 9), none⟩,
    ⟨.mv (.s 3), none⟩,
    ⟨.iaS 1 (.r 10) (.r 11), none⟩,
    ⟨.load 0 false 1 (.r 12), none⟩,
    ⟨.call .heap n_rel_row_join [(.r 6), (.r 13)], none⟩] [] [(3, 10), (3, 12), (3, 13), (5, 10), (5, 12), (5, 13), (6, 10), (6, 12), (6, 13)] [])
  (.drop [3] []))))
 (.reg [⟨.bin .add (.s 10) (.c (.int .i64 1)), none⟩,
   ⟨.mv (.r 0), none⟩] [] [] [(10, 1, none)])))
def ir_rel_Rel_Joinl1 : C :=
 .seq (.reg [⟨.bin .lss (.s 6) (.s 5), none⟩] [] [] [(7, 0, none)])
 (.seq (.cond (.s 7) (.skip)
  (.exit 0))
 (.seq (.block 1 (.seq (.seq (.reg [⟨.iaS 1 (.s 4) (.s 6), none⟩,
    ⟨.load 0 false 1 (.r 0), none⟩,
    ⟨.mv (.r 1), none⟩] [] [] [(2, 2, none)])
  (.drop [7] []))
  (.seq (.seq (.reg [⟨.mv (.s 0), none⟩,
    ⟨.eqn .ptr false (.r 0) (.c (.nilp)), none⟩,
    ⟨.mv (.r 1), none⟩,
    ⟨.mv (.s 2), some (2, false)⟩,
    ⟨.call .val n_rel_Rel_Len [(.r 3)], some (2, false)⟩,
    ⟨.mv (.s 0), some (2, false)⟩,
    ⟨.call .val n_rel_Rel_Len [(.r 5)], some (2, false)⟩,
    ⟨.bin .neq (.r 4) (.r 6), some (2, false)⟩,
    ⟨.pick (.r 2) (.c (.bool true)) (.r 7), none⟩] [] [] [(8, 8, none)])
  (.cond (.s 8) (.exit 1)
   (.skip)))
  (.seq (.seq (.reg [⟨.mv (.s 0), none⟩,
    ⟨.nilck (.r 0), none⟩,
    ⟨.off 0 (.r 1), none⟩,
    ⟨.load 0 false 1 (.r 2), none⟩,
    ⟨.len 1 (.r 3), none⟩,
    ⟨.mv (.c (.int .i64 0)), none⟩] [] [] [(9, 4, none), (10, 5, none)])
  (.drop [8] []))
  (.block 2 (.loop ir_rel_Rel_Joinl0))))))
 (.seq (.reg [⟨.bin .add (.s 6) (.c (.int .i64 1)), none⟩,
   ⟨.mv (.r 0), none⟩] [] [] [(6, 1, none)])
 (.drop [2, 8, 9, 10, 11] []))))
def ir_rel_Rel_Join : Vm.Fn := ⟨[0, 1, 5, 6, 7, 8, 9, 10, 21, 26, 27, 28], 0, 0, [],
 .seq (.seq (.reg [⟨.mv (.s 1), none⟩,
   ⟨.len 1 (.r 0), none⟩,
   ⟨.mv (.c (.int .i64 0)), none⟩] [] [] [(4, 0, none), (5, 1, none), (6, 2, none)])
 (.drop [1] []))
 (.block 0 (.loop ir_rel_Rel_Joinl1))⟩
/-- 14: undertow/rel.New -/
def h14 : Vm.Hint := ⟨[0, 2, 3, 9, 12, 13, 14], [], [], [[0], [0, 0, 0, 0, 0, 0], [0], [0, 0, 0], [0, 0], [0], [0, 0, 0, 0, 0, 0, 0, 0, 0, 0, 1, 0, 0, 0, 0], [0, 0], [0, 0]], [([1], []), ([], []), ([0, 3], []), ([3], []), ([], []), ([], []), ([6], []), ([], []), ([0, 2, 4, 5, 6], [])], []⟩
def ir_rel_Newl0 : C :=
 .seq (.reg [⟨.bin .lss (.s 5) (.s 4), none⟩] [] [] [(6, 0, none)])
 (.seq (.cond (.s 6) (.skip)
  (.exit 0))
 (.seq (.block 1 (.seq (.reg [⟨.mv (.s 2), none⟩,
    ⟨.mv (.s 2), none⟩,
    ⟨.nilck (.r 1), none⟩,
    ⟨.off 0 (.r 2), none⟩,
    ⟨.load 0 false 1 (.r 3), none⟩,
    ⟨.mv (.s 0), none⟩,
    ⟨.bin .add (.r 5) (.c (.int .i64 64)), none⟩,
    ⟨.bin .sub (.r 6) (.c (.int .i64 1)), none⟩,
    ⟨.bin .quo (.r 7) (.c (.int .i64 64)), none⟩,
    ⟨.mksl [.int .u64 0] 8 (.r 8) (.r 8), none⟩,
    ⟨.lit 1 1 [[.nils]] [(0, (.r 9))], none⟩,
    ⟨.app 0 1 24 (.r 4) (.r 10), none⟩,
    ⟨.nilck (.r 0), none⟩,
    ⟨.off 0 (.r 12), none⟩,
    ⟨.store 0 1 (.r 13) (.r 11), none⟩] [] [(4, 9)] [])
  (.drop [6] [])))
 (.reg [⟨.bin .add (.s 5) (.c (.int .i64 1)), none⟩,
   ⟨.mv (.r 0), none⟩] [] [] [(5, 1, none)])))
def ir_rel_New : Vm.Fn := ⟨[0, 2, 3, 9, 12, 13, 14], 0, 0, [.slot 1],
 .seq (.seq (.reg [⟨.mv (.c (.nilp)), none⟩] [] [] [(1, 0, none)])
 (.drop [1] []))
 (.seq (.seq (.reg [⟨.mv (.s 0), none⟩,
   ⟨.bin .lss (.r 0) (.c (.int .i64 0)), none⟩,
   ⟨.mv (.r 1), none⟩,
   ⟨.mv (.s 0), some (2, false)⟩,
   ⟨.bin .gtr (.r 3) (.c (.int .i64 512)), some (2, false)⟩,
   ⟨.pick (.r 2) (.c (.bool true)) (.r 4), none⟩] [] [] [(3, 5, none)])
 (.cond (.s 3) (.seq (.seq (.reg [⟨.mv (.c (.nilp)), none⟩] [] [] [(1, 0, none)])
  (.drop [0, 3] []))
  (.ret))
  (.skip)))
 (.seq (.seq (.reg [⟨.build [.nils] [], none⟩,
   ⟨.hbox 1 (.r 0), none⟩,
   ⟨.mv (.r 1), none⟩] [] [] [(2, 2, none)])
 (.drop [3] []))
 (.seq (.seq (.reg [⟨.mv (.s 0), none⟩,
   ⟨.mv (.c (.int .i64 0)), none⟩] [] [] [(4, 0, none), (5, 1, none)])
 (.block 0 (.loop ir_rel_Newl0)))
 (.seq (.seq (.reg [⟨.mv (.s 2), none⟩,
   ⟨.mv (.r 0), none⟩] [] [] [(1, 1, none)])
 (.drop [0, 2, 4, 5, 6] []))
 (.ret)))))⟩
/-- 15: (*undertow/rel.Rel).Order -/
def h15 : Vm.Hint := ⟨[0, 2, 3, 4, 6, 7, 8, 9, 11, 16, 17, 18, 19, 37, 39, 40, 41, 53, 68, 69, 70, 71], [6], [8], [[0, 0], [0, 0, 0, 0], [0, 0, 0, 0], [0], [0, 0, 1, 0], [0, 0, 0, 0, 0, 0, 0, 0], [0, 0], [0, 0, 0, 0], [1], [0, 0, 0, 0, 0], [0, 0, 0], [0], [0, 0], [0, 0, 0, 0, 0, 0, 0, 0, 0, 0, 0], [0, 0, 0, 0], [0, 0, 1, 2, 0], [0, 0, 0, 0, 0, 0, 0, 0, 0, 0], [0], [0, 0, 0], [0, 0, 0, 0, 0, 0, 0], [0, 0], [0, 0], [0, 0], [0, 0, 0, 0, 0]], [([1, 2], []), ([], []), ([], []), ([], []), ([12], []), ([4], [(true, 0)]), ([], []), ([9, 10, 11, 12], []), ([], []), ([18, 19, 20, 21], []), ([13], []), ([], []), ([16], []), ([], []), ([14, 15, 17], []), ([], []), ([7], []), ([], []), ([21], []), ([8], []), ([], []), ([7, 17], []), ([0, 3, 5, 6, 14, 15, 16], [(false, 0)]), ([0, 3, 5, 6, 13], [(false, 0)])], []⟩
def ir_rel_Rel_Orderl0 : C :=
 .seq (.reg [⟨.bin .lss (.s 11) (.s 10), none⟩] [] [] [(12, 0, none)])
 (.seq (.cond (.s 12) (.skip)
  (.exit 0))
 (.seq (.block 1 (.seq (.seq (.reg [⟨.iaS 2 (.s 9) (.s 11), none⟩,
    ⟨.load 0 true 2 (.r 0), none⟩,
    ⟨.lalloc 0 [.int .i64 0, .int .i64 0], none⟩,
    ⟨.store 0 2 (.r 2) (.r 1), none⟩] [(true, 0)] [] [(4, 2, some 1)])
  (.drop [12] []))
  (.seq (.reg [⟨.mv (.s 3), none⟩,
    ⟨.iaA 2 1 (.s 4) (.c (.int .i64 1)), none⟩,
    ⟨.load 0 false 1 (.r 1), none⟩,
    ⟨.iaS 1 (.r 0) (.r 2), none⟩,
    ⟨.load 0 false 1 (.r 3), none⟩,
    ⟨.bin .add (.r 4) (.c (.int .i64 1)), none⟩,
    ⟨.iaS 1 (.r 0) (.r 2), none⟩,
    ⟨.store 0 1 (.r 6) (.r 5), none⟩] [] [] [])
  (.drop [4] [(true, 0)]))))
 (.reg [⟨.bin .add (.s 11) (.c (.int .i64 1)), none⟩,
   ⟨.mv (.r 0), none⟩] [] [] [(11, 1, none)])))
def ir_rel_Rel_Orderl1 : C :=
 .seq (.reg [⟨.bin .lss (.s 20) (.s 19), none⟩] [] [] [(21, 0, none)])
 (.seq (.cond (.s 21) (.skip)
  (.exit 6))
 (.seq (.block 7 (.seq (.seq (.reg [⟨.iaS 1 (.s 18) (.s 20), none⟩,
    ⟨.load 0 false 1 (.r 0), none⟩,
    ⟨.mv (.r 1), none⟩] [] [] [(8, 2, none)])
  (.drop [21] []))
  (.seq (.reg [⟨.mv (.s 3), none⟩,
    ⟨.mv (.s 8), none⟩,
    ⟨.iaS 1 (.r 0) (.r 1), none⟩,
    ⟨.load 0 false 1 (.r 2), none⟩,
    ⟨.bin .sub (.r 3) (.c (.int .i64 1)), none⟩,
    ⟨.iaS 1 (.r 0) (.r 1), none⟩,
    ⟨.store 0 1 (.r 5) (.r 4), none⟩] [] [] [])
  (.drop [8] []))))
 (.reg [⟨.bin .add (.s 20) (.c (.int .i64 1)), none⟩,
   ⟨.mv (.r 0), none⟩] [] [] [(20, 1, none)])))
def ir_rel_Rel_Orderl2 : C :=
 .seq (.reg [⟨.bin .lss (.s 15) (.s 14), none⟩] [] [] [(16, 0, none)])
 (.seq (.cond (.s 16) (.skip)
  (.exit 4))
 (.seq (.block 5 (.seq (.seq (.reg [⟨.mv (.s 15), none⟩,
    ⟨.mv (.r 0), none⟩] [] [] [(7, 1, none)])
  (.drop [16] []))
  (.seq (.seq (.reg [⟨.mv (.s 5), none⟩,
    ⟨.mv (.s 7), none⟩,
    ⟨.iaS 1 (.r 0) (.r 1), none⟩,
    ⟨.load 0 false 1 (.r 2), none⟩,
    ⟨.mv (.r 3), none⟩,
    ⟨.mv (.s 3), some (4, false)⟩,
    ⟨.mv (.s 7), some (4, false)⟩,
    ⟨.iaS 1 (.r 5) (.r 6), some (4, false)⟩,
    ⟨.load 0 false 1 (.r 7), some (4, false)⟩,
    ⟨.bin .gtr (.r 8) (.c (.int .i64 0)), some (4, false)⟩,
    ⟨.pick (.r 4) (.c (.bool true)) (.r 9), none⟩] [] [] [(17, 10, none)])
  (.cond (.s 17) (.exit 5)
   (.skip)))
  (.seq (.seq (.reg [⟨.mv (.s 5), none⟩,
    ⟨.mv (.s 7), none⟩,
    ⟨.iaS 1 (.r 0) (.r 1), none⟩,
    ⟨.store 0 1 (.r 2) (.c (.bool true)), none⟩] [] [] [])
  (.drop [14, 15, 17] []))
  (.seq (.reg [⟨.mv (.s 6), none⟩,
    ⟨.mv (.s 7), none⟩,
    ⟨.lit 1 1 [[.int .i64 0]] [(0, (.r 1))], none⟩,
    ⟨.app 2 1 8 (.r 0) (.r 2), none⟩,
    ⟨.mv (.r 3), none⟩] [] [] [(6, 4, some 0)])
  (.seq (.seq (.seq (.reg [⟨.mv (.s 0), none⟩,
    ⟨.nilck (.r 0), none⟩,
    ⟨.off 0 (.r 1), none⟩,
    ⟨.load 0 false 1 (.r 2), none⟩,
    ⟨.mv (.s 7), none⟩,
    ⟨.iaS 1 (.r 3) (.r 4), none⟩,
    ⟨.load 0 false 1 (.r 5), none⟩,
    ⟨.call .val n_rel_row_each [(.r 6)], none⟩,
    ⟨.len 1 (.r 7), none⟩,
    ⟨.mv (.c (.int .i64 0)), none⟩] [] [] [(18, 7, none), (19, 8, none), (20, 9, none)])
  (.drop [7] []))
  (.block 6 (.loop ir_rel_Rel_Orderl1)))
  (.exit 3)))))))
 (.seq (.reg [⟨.bin .add (.s 15) (.c (.int .i64 1)), none⟩,
   ⟨.mv (.r 0), none⟩] [] [] [(15, 1, none)])
 (.drop [7, 17] []))))
def ir_rel_Rel_Orderl3 : C :=
 .seq (.seq (.seq (.reg [⟨.mv (.s 6), none⟩,
   ⟨.len 1 (.r 0), none⟩,
   ⟨.mv (.s 0), none⟩,
   ⟨.call .val n_rel_Rel_Len [(.r 2)], none⟩,
   ⟨.bin .lss (.r 1) (.r 3), none⟩] [] [] [(13, 4, none)])
 (.drop [18, 19, 20, 21] []))
 (.cond (.s 13) (.skip)
  (.exit 2)))
 (.block 3 (.seq (.seq (.seq (.reg [⟨.mv (.s 3), none⟩,
    ⟨.len 1 (.r 0), none⟩,
    ⟨.mv (.c (.int .i64 0)), none⟩] [] [] [(14, 1, none), (15, 2, none)])
  (.drop [13] []))
  (.block 4 (.loop ir_rel_Rel_Orderl2)))
  (.seq (.seq (.reg [⟨.mv (.c (.nils)), none⟩,
    ⟨.mv (.c (.bool false)), none⟩] [] [] [(1, 0, none), (2, 1, none)])
  (.drop [0, 3, 5, 6, 14, 15, 16] [(false, 0)]))
  (.ret))))
def ir_rel_Rel_Order : Vm.Fn := ⟨[0, 2, 3, 4, 6, 7, 8, 9, 11, 16, 17, 18, 19, 37, 39, 40, 41, 53, 68, 69, 70, 71], 1, 1, [.slot 1, .slot 2],
 .seq (.seq (.reg [⟨.mv (.c (.nils)), none⟩,
   ⟨.mv (.c (.bool false)), none⟩] [] [] [(1, 0, none), (2, 1, none)])
 (.drop [1, 2] []))
 (.seq (.reg [⟨.mv (.s 0), none⟩,
   ⟨.call .val n_rel_Rel_Len [(.r 0)], none⟩,
   ⟨.mksl [.int .i64 0] 8 (.r 1) (.r 1), none⟩,
   ⟨.mv (.r 2), none⟩] [] [] [(3, 3, none)])
 (.seq (.seq (.reg [⟨.mv (.s 0), none⟩,
   ⟨.call .val n_rel_Rel_Pairs [(.r 0)], none⟩,
   ⟨.len 1 (.r 1), none⟩,
   ⟨.mv (.c (.int .i64 0)), none⟩] [] [] [(9, 1, none), (10, 2, none), (11, 3, none)])
 (.block 0 (.loop ir_rel_Rel_Orderl0)))
 (.seq (.seq (.reg [⟨.mv (.s 0), none⟩,
   ⟨.call .val n_rel_Rel_Len [(.r 0)], none⟩,
   ⟨.mksl [.bool false] 1 (.r 1) (.r 1), none⟩,
   ⟨.mv (.r 2), none⟩] [] [] [(5, 3, none)])
 (.drop [9, 10, 11, 12] []))
 (.seq (.reg [⟨.onil 0, none⟩] [(false, 0)] [] [(6, 0, some 0)])
 (.seq (.block 2 (.loop ir_rel_Rel_Orderl3))
 (.seq (.seq (.reg [⟨.mv (.s 6), none⟩,
   ⟨.mv (.s 0), none⟩,
   ⟨.eqn .ptr true (.r 1) (.c (.nilp)), none⟩,
   ⟨.mv (.r 0), none⟩,
   ⟨.mv (.r 2), none⟩] [] [] [(1, 3, none), (2, 4, none)])
 (.drop [0, 3, 5, 6, 13] [(false, 0)]))
 (.ret)))))))⟩
/-- 16: (*undertow/rel.Rel).Len -/
def h16 : Vm.Hint := ⟨[0, 2, 4], [], [], [[0], [0, 0], [0], [0, 0, 0, 0, 0, 0]], [([1], []), ([], []), ([0, 2], []), ([0, 2], [])], []⟩
def ir_rel_Rel_Len : Vm.Fn := ⟨[0, 2, 4], 0, 0, [.slot 1],
 .seq (.seq (.reg [⟨.mv (.c (.int .i64 0)), none⟩] [] [] [(1, 0, none)])
 (.drop [1] []))
 (.seq (.seq (.reg [⟨.mv (.s 0), none⟩,
   ⟨.eqn .ptr false (.r 0) (.c (.nilp)), none⟩] [] [] [(2, 1, none)])
 (.cond (.s 2) (.seq (.seq (.reg [⟨.mv (.c (.int .i64 0)), none⟩] [] [] [(1, 0, none)])
  (.drop [0, 2] []))
  (.ret))
  (.skip)))
 (.seq (.seq (.reg [⟨.mv (.s 0), none⟩,
   ⟨.nilck (.r 0), none⟩,
   ⟨.off 0 (.r 1), none⟩,
   ⟨.load 0 false 1 (.r 2), none⟩,
   ⟨.len 1 (.r 3), none⟩,
   ⟨.mv (.r 4), none⟩] [] [] [(1, 5, none)])
 (.drop [0, 2] []))
 (.ret)))⟩
/-- 17: (*undertow/rel.Rel).Add -/
def h17 : Vm.Hint := ⟨[0, 1, 2, 6, 16], [], [], [[0], [0, 0, 0, 0, 0, 0, 0, 0, 0, 0], [0], [0, 0, 0, 0, 0, 0, 0, 0, 1], [0]], [([3], []), ([], []), ([0, 1, 2, 4], []), ([0, 1, 2, 4], []), ([], [])], []⟩
def ir_rel_Rel_Add : Vm.Fn := ⟨[0, 1, 2, 6, 16], 0, 0, [.slot 3],
 .seq (.seq (.reg [⟨.mv (.c (.bool false)), none⟩] [] [] [(3, 0, none)])
 (.drop [3] []))
 (.seq (.seq (.reg [⟨.mv (.s 0), none⟩,
   ⟨.mv (.s 1), none⟩,
   ⟨.call .val n_rel_Rel_is [(.r 0), (.r 1)], none⟩,
   ⟨.un .not (.r 2), none⟩,
   ⟨.mv (.r 3), none⟩,
   ⟨.mv (.s 0), some (4, false)⟩,
   ⟨.mv (.s 2), some (4, false)⟩,
   ⟨.call .val n_rel_Rel_is [(.r 5), (.r 6)], some (4, false)⟩,
   ⟨.un .not (.r 7), some (4, false)⟩,
   ⟨.pick (.r 4) (.c (.bool true)) (.r 8), none⟩] [] [] [(4, 9, none)])
 (.cond (.s 4) (.seq (.seq (.reg [⟨.mv (.c (.bool false)), none⟩] [] [] [(3, 0, none)])
  (.drop [0, 1, 2, 4] []))
  (.ret))
  (.skip)))
 (.seq (.seq (.reg [⟨.mv (.s 0), none⟩,
   ⟨.nilck (.r 0), none⟩,
   ⟨.off 0 (.r 1), none⟩,
   ⟨.load 0 false 1 (.r 2), none⟩,
   ⟨.mv (.s 1), none⟩,
   ⟨.iaS 1 (.r 3) (.r 4), none⟩,
   ⟨.load 0 false 1 (.r 5), none⟩,
   ⟨.mv (.s 2), none⟩,
   ⟨.call .heap n_rel_row_add [(.r 6), (.r 7)], none⟩] [] [] [])
 (.drop [0, 1, 2, 4] []))
 (.seq (.reg [⟨.mv (.c (.bool true)), none⟩] [] [] [(3, 0, none)])
 (.ret))))⟩
/-- 18: (*undertow/rel.Rel).Pairs -/
def h18 : Vm.Hint := ⟨[0, 2, 3, 4, 6, 8, 9, 10, 19, 20, 21, 22], [], [3], [[0], [1], [0, 0, 0], [0], [0, 0], [0, 0, 0, 0, 0, 0, 0, 0, 0, 0], [0], [0, 0, 0], [0, 0, 0, 0, 1, 2, 0], [0, 0], [0, 0], [0, 0]], [([1], []), ([], []), ([], []), ([], []), ([7], []), ([], []), ([], []), ([11], []), ([4], []), ([], []), ([3, 8, 9, 10, 11], []), ([0, 2, 5, 6, 7], [(false, 0)])], []⟩
def ir_rel_Rel_Pairsl0 : C :=
 .seq (.reg [⟨.bin .lss (.s 10) (.s 9), none⟩] [] [] [(11, 0, none)])
 (.seq (.cond (.s 11) (.skip)
  (.exit 2))
 (.seq (.block 3 (.seq (.seq (.reg [⟨.iaS 1 (.s 8) (.s 10), none⟩,
    ⟨.load 0 false 1 (.r 0), none⟩,
    ⟨.mv (.r 1), none⟩] [] [] [(4, 2, none)])
  (.drop [11] []))
  (.seq (.reg [⟨.mv (.s 2), none⟩,
    ⟨.mv (.s 3), none⟩,
    ⟨.mv (.s 4), none⟩,
    ⟨.build [.int .i64 0, .int .i64 0] [(0, 1, (.r 1)), (1, 1, (.r 2))], none⟩,
    ⟨.lit 1 2 [[.int .i64 0, .int .i64 0]] [(0, (.r 3))], none⟩,
    ⟨.app 2 2 16 (.r 0) (.r 4), none⟩,
    ⟨.mv (.r 5), none⟩] [] [] [(2, 6, some 0)])
  (.drop [4] []))))
 (.reg [⟨.bin .add (.s 10) (.c (.int .i64 1)), none⟩,
   ⟨.mv (.r 0), none⟩] [] [] [(10, 1, none)])))
def ir_rel_Rel_Pairsl1 : C :=
 .seq (.reg [⟨.bin .lss (.s 6) (.s 5), none⟩] [] [] [(7, 0, none)])
 (.seq (.cond (.s 7) (.skip)
  (.exit 0))
 (.seq (.block 1 (.seq (.seq (.reg [⟨.mv (.s 6), none⟩,
    ⟨.mv (.r 0), none⟩] [] [] [(3, 1, none)])
  (.drop [7] []))
  (.seq (.reg [⟨.mv (.s 0), none⟩,
    ⟨.nilck (.r 0), none⟩,
    ⟨.off 0 (.r 1), none⟩,
    ⟨.load 0 false 1 (.r 2), none⟩,
    ⟨.mv (.s 3), none⟩,
    ⟨.iaS 1 (.r 3) (.r 4), none⟩,
    ⟨.load 0 false 1 (.r 5), none⟩,
    ⟨.call .val n_rel_row_each [(.r 6)], none⟩,
    ⟨.len 1 (.r 7), none⟩,
    ⟨.mv (.c (.int .i64 0)), none⟩] [] [] [(8, 7, none), (9, 8, none), (10, 9, none)])
  (.block 2 (.loop ir_rel_Rel_Pairsl0)))))
 (.seq (.reg [⟨.bin .add (.s 6) (.c (.int .i64 1)), none⟩,
   ⟨.mv (.r 0), none⟩] [] [] [(6, 1, none)])
 (.drop [3, 8, 9, 10, 11] []))))
def ir_rel_Rel_Pairs : Vm.Fn := ⟨[0, 2, 3, 4, 6, 8, 9, 10, 19, 20, 21, 22], 0, 1, [.slot 1],
 .seq (.seq (.reg [⟨.mv (.c (.nils)), none⟩] [] [] [(1, 0, none)])
 (.drop [1] []))
 (.seq (.reg [⟨.onil 0, none⟩] [(false, 0)] [] [(2, 0, some 0)])
 (.seq (.seq (.reg [⟨.mv (.s 0), none⟩,
   ⟨.call .val n_rel_Rel_Len [(.r 0)], none⟩,
   ⟨.mv (.c (.int .i64 0)), none⟩] [] [] [(5, 1, none), (6, 2, none)])
 (.block 0 (.loop ir_rel_Rel_Pairsl1)))
 (.seq (.seq (.reg [⟨.mv (.s 2), none⟩,
   ⟨.mv (.r 0), none⟩] [] [] [(1, 1, none)])
 (.drop [0, 2, 5, 6, 7] [(false, 0)]))
 (.ret))))⟩
/-- 19: (*undertow/rel.Rel).Fits -/
def h19 : Vm.Hint := ⟨[0, 1, 4, 5, 6, 7, 9, 18, 22, 23, 24, 25, 39, 47, 48, 49, 50, 63], [9], [], [[0], [0, 0, 0, 0, 0, 0, 0, 0, 0], [0], [0, 0, 0, 0], [0, 0, 0], [0], [0, 0, 0, 0, 0], [0, 0, 0, 0, 0, 0, 0, 0, 0, 0, 0], [0], [0, 0, 0, 0, 0, 0], [0, 0], [0, 0, 0, 0], [0], [0, 0, 1, 0], [0, 0, 0, 0, 0, 0, 0, 0, 0, 0, 0], [0], [0, 0], [0]], [([2], []), ([], []), ([0, 1, 7], []), ([7], []), ([1], []), ([], []), ([11], []), ([], []), ([0, 3, 4, 5, 8, 9, 10, 12], []), ([4, 5, 12], []), ([], []), ([0, 8, 9, 10, 11], []), ([], []), ([16], []), ([6], [(true, 0)]), ([3, 13, 14, 15, 17], []), ([17], []), ([3, 13, 14, 15, 16], [])], []⟩
def ir_rel_Rel_Fitsl0 : C :=
 .seq (.reg [⟨.bin .lss (.s 10) (.s 9), none⟩] [] [] [(11, 0, none)])
 (.seq (.cond (.s 11) (.skip)
  (.exit 0))
 (.seq (.block 1 (.seq (.seq (.reg [⟨.mv (.s 10), none⟩,
    ⟨.iaS 1 (.s 8) (.s 10), none⟩,
    ⟨.load 0 false 1 (.r 1), none⟩,
    ⟨.mv (.r 0), none⟩,
    ⟨.mv (.r 2), none⟩] [] [] [(4, 3, none), (5, 4, none)])
  (.drop [11] []))
  (.seq (.seq (.reg [⟨.mv (.s 0), none⟩,
    ⟨.mv (.s 5), none⟩,
    ⟨.call .val n_rel_Rel_is [(.r 0), (.r 1)], none⟩,
    ⟨.un .not (.r 2), none⟩,
    ⟨.mv (.r 3), none⟩,
    ⟨.mv (.s 3), some (4, false)⟩,
    ⟨.mv (.s 5), some (4, false)⟩,
    ⟨.iaS 1 (.r 5) (.r 6), some (4, false)⟩,
    ⟨.load 0 false 1 (.r 7), some (4, false)⟩,
    ⟨.bin .gtr (.r 8) (.c (.int .i64 0)), some (4, false)⟩,
    ⟨.pick (.r 4) (.c (.bool true)) (.r 9), none⟩] [] [] [(12, 10, none)])
  (.cond (.s 12) (.seq (.seq (.reg [⟨.mv (.c (.bool false)), none⟩] [] [] [(2, 0, none)])
   (.drop [0, 3, 4, 5, 8, 9, 10, 12] []))
   (.ret))
   (.skip)))
  (.seq (.reg [⟨.mv (.s 3), none⟩,
    ⟨.mv (.s 5), none⟩,
    ⟨.mv (.s 4), none⟩,
    ⟨.bin .add (.r 2) (.c (.int .i64 1)), none⟩,
    ⟨.iaS 1 (.r 0) (.r 1), none⟩,
    ⟨.store 0 1 (.r 4) (.r 3), none⟩] [] [] [])
  (.drop [4, 5, 12] [])))))
 (.reg [⟨.bin .add (.s 10) (.c (.int .i64 1)), none⟩,
   ⟨.mv (.r 0), none⟩] [] [] [(10, 1, none)])))
def ir_rel_Rel_Fitsl1 : C :=
 .seq (.reg [⟨.bin .lss (.s 15) (.s 14), none⟩] [] [] [(16, 0, none)])
 (.seq (.cond (.s 16) (.skip)
  (.exit 2))
 (.seq (.block 3 (.seq (.seq (.reg [⟨.iaS 2 (.s 13) (.s 15), none⟩,
    ⟨.load 0 true 2 (.r 0), none⟩,
    ⟨.lalloc 0 [.int .i64 0, .int .i64 0], none⟩,
    ⟨.store 0 2 (.r 2) (.r 1), none⟩] [(true, 0)] [] [(6, 2, some 1)])
  (.drop [16] []))
  (.seq (.seq (.reg [⟨.mv (.s 3), none⟩,
    ⟨.iaA 2 1 (.s 6) (.c (.int .i64 0)), none⟩,
    ⟨.load 0 false 1 (.r 1), none⟩,
    ⟨.iaS 1 (.r 0) (.r 2), none⟩,
    ⟨.load 0 false 1 (.r 3), none⟩,
    ⟨.mv (.s 3), none⟩,
    ⟨.iaA 2 1 (.s 6) (.c (.int .i64 1)), none⟩,
    ⟨.load 0 false 1 (.r 6), none⟩,
    ⟨.iaS 1 (.r 5) (.r 7), none⟩,
    ⟨.load 0 false 1 (.r 8), none⟩,
    ⟨.bin .geq (.r 4) (.r 9), none⟩] [] [(2, 7), (2, 8), (2, 9), (3, 7), (3, 8), (3, 9), (4, 7), (4, 8), (4, 9)] [(17, 10, none)])
  (.drop [6] [(true, 0)]))
  (.cond (.s 17) (.seq (.seq (.reg [⟨.mv (.c (.bool false)), none⟩] [] [] [(2, 0, none)])
   (.drop [3, 13, 14, 15, 17] []))
   (.ret))
   (.skip)))))
 (.seq (.reg [⟨.bin .add (.s 15) (.c (.int .i64 1)), none⟩,
   ⟨.mv (.r 0), none⟩] [] [] [(15, 1, none)])
 (.drop [17] []))))
def ir_rel_Rel_Fits : Vm.Fn := ⟨[0, 1, 4, 5, 6, 7, 9, 18, 22, 23, 24, 25, 39, 47, 48, 49, 50, 63], 1, 0, [.slot 2],
 .seq (.seq (.reg [⟨.mv (.c (.bool false)), none⟩] [] [] [(2, 0, none)])
 (.drop [2] []))
 (.seq (.seq (.reg [⟨.mv (.s 0), none⟩,
   ⟨.eqn .ptr false (.r 0) (.c (.nilp)), none⟩,
   ⟨.mv (.r 1), none⟩,
   ⟨.mv (.s 1), some (2, false)⟩,
   ⟨.len 1 (.r 3), some (2, false)⟩,
   ⟨.mv (.s 0), some (2, false)⟩,
   ⟨.call .val n_rel_Rel_Len [(.r 5)], some (2, false)⟩,
   ⟨.bin .neq (.r 4) (.r 6), some (2, false)⟩,
   ⟨.pick (.r 2) (.c (.bool true)) (.r 7), none⟩] [] [] [(7, 8, none)])
 (.cond (.s 7) (.seq (.seq (.reg [⟨.mv (.c (.bool false)), none⟩] [] [] [(2, 0, none)])
  (.drop [0, 1, 7] []))
  (.ret))
  (.skip)))
 (.seq (.seq (.reg [⟨.mv (.s 1), none⟩,
   ⟨.len 1 (.r 0), none⟩,
   ⟨.mksl [.int .i64 0] 8 (.r 1) (.r 1), none⟩,
   ⟨.mv (.r 2), none⟩] [] [] [(3, 3, none)])
 (.drop [7] []))
 (.seq (.seq (.seq (.reg [⟨.mv (.s 1), none⟩,
   ⟨.len 1 (.r 0), none⟩,
   ⟨.mv (.c (.int .i64 0)), none⟩] [] [] [(8, 0, none), (9, 1, none), (10, 2, none)])
 (.drop [1] []))
 (.block 0 (.loop ir_rel_Rel_Fitsl0)))
 (.seq (.seq (.seq (.reg [⟨.mv (.s 0), none⟩,
   ⟨.call .val n_rel_Rel_Pairs [(.r 0)], none⟩,
   ⟨.len 1 (.r 1), none⟩,
   ⟨.mv (.c (.int .i64 0)), none⟩] [] [] [(13, 1, none), (14, 2, none), (15, 3, none)])
 (.drop [0, 8, 9, 10, 11] []))
 (.block 2 (.loop ir_rel_Rel_Fitsl1)))
 (.seq (.seq (.reg [⟨.mv (.c (.bool true)), none⟩] [] [] [(2, 0, none)])
 (.drop [3, 13, 14, 15, 16] []))
 (.ret))))))⟩
/-- 20: undertow/undertowref19.Order -/
def h20 : Vm.Hint := ⟨[0, 2, 3, 4, 5, 6, 7, 8, 9, 17, 25, 36, 56, 59], [], [4], [[0, 0], [1], [0, 0, 0, 0], [0, 0, 0, 0, 0], [0], [0], [0, 0, 0, 0, 0, 0, 0, 0], [0, 0, 0], [0, 0, 0, 0, 0, 0], [0], [0, 0, 0, 0], [0, 0, 0], [0, 0, 0, 0, 0, 0, 0, 0, 0, 0, 0, 0, 0, 0, 0, 0, 0, 0], [0], [0, 0], [0, 0], [0, 0], [0, 0, 0, 0], [0, 0, 1, 2, 0], [0, 0, 0]], [([1, 2], []), ([], []), ([], []), ([], []), ([9], []), ([], []), ([], []), ([12], []), ([10], []), ([], []), ([], []), ([], []), ([11], []), ([7, 8, 11], []), ([12], []), ([6, 10], []), ([0, 3, 4, 5, 13], [(false, 0)]), ([13], []), ([5], []), ([0, 3, 4, 9], [(false, 0)])], []⟩
def ir_undertowref19_Orderl0 : C :=
 .seq (.seq (.reg [⟨.mv (.s 8), none⟩,
   ⟨.mv (.s 0), none⟩,
   ⟨.len 1 (.r 1), none⟩,
   ⟨.bin .lss (.r 0) (.r 2), none⟩] [] [] [(11, 3, none)])
 (.cond (.s 11) (.skip)
  (.exit 4)))
 (.seq (.block 5 (.seq (.reg [⟨.mv (.s 7), none⟩,
    ⟨.mv (.r 0), none⟩,
    ⟨.mv (.s 4), some (1, true)⟩,
    ⟨.mv (.s 8), some (1, true)⟩,
    ⟨.iaS 1 (.r 2) (.r 3), some (1, true)⟩,
    ⟨.load 0 false 1 (.r 4), some (1, true)⟩,
    ⟨.mv (.r 5), some (1, true)⟩,
    ⟨.mv (.s 0), some (6, false)⟩,
    ⟨.mv (.s 8), some (6, false)⟩,
    ⟨.iaS 1 (.r 7) (.r 8), some (6, false)⟩,
    ⟨.load 0 false 1 (.r 9), some (6, false)⟩,
    ⟨.mv (.s 6), some (6, false)⟩,
    ⟨.iaS 1 (.r 10) (.r 11), some (6, false)⟩,
    ⟨.load 0 false 1 (.r 12), some (6, false)⟩,
    ⟨.un .not (.r 13), some (6, false)⟩,
    ⟨.pick (.r 6) (.c (.bool true)) (.r 14), some (1, true)⟩,
    ⟨.pick (.r 1) (.r 15) (.c (.bool false)), none⟩,
    ⟨.mv (.r 16), none⟩] [] [] [(7, 17, none)])
  (.drop [11] [])))
 (.reg [⟨.mv (.s 8), none⟩,
   ⟨.bin .add (.r 0) (.c (.int .i64 1)), none⟩,
   ⟨.mv (.r 1), none⟩] [] [] [(8, 2, none)]))
def ir_undertowref19_Orderl1 : C :=
 .seq (.seq (.reg [⟨.mv (.s 6), none⟩,
   ⟨.mv (.s 0), none⟩,
   ⟨.len 1 (.r 1), none⟩,
   ⟨.bin .lss (.r 0) (.r 2), none⟩,
   ⟨.mv (.r 3), none⟩,
   ⟨.mv (.s 5), some (4, true)⟩,
   ⟨.bin .lss (.r 5) (.c (.int .i64 0)), some (4, true)⟩,
   ⟨.pick (.r 4) (.r 6) (.c (.bool false)), none⟩] [] [] [(10, 7, none)])
 (.cond (.s 10) (.skip)
  (.exit 2)))
 (.seq (.block 3 (.seq (.seq (.reg [⟨.mv (.s 4), none⟩,
    ⟨.mv (.s 6), none⟩,
    ⟨.iaS 1 (.r 0) (.r 1), none⟩,
    ⟨.load 0 false 1 (.r 2), none⟩,
    ⟨.un .not (.r 3), none⟩,
    ⟨.mv (.r 4), none⟩] [] [] [(7, 5, none)])
  (.drop [10] []))
  (.seq (.seq (.reg [⟨.mv (.c (.int .i64 0)), none⟩] [] [] [(8, 0, none)])
  (.block 4 (.loop ir_undertowref19_Orderl0)))
  (.seq (.seq (.reg [⟨.mv (.s 7), none⟩] [] [] [(12, 0, none)])
  (.drop [7, 8, 11] []))
  (.cond (.s 12) (.seq (.reg [⟨.mv (.s 6), none⟩,
     ⟨.mv (.r 0), none⟩] [] [] [(5, 1, none)])
   (.drop [12] []))
   (.skip))))))
 (.seq (.reg [⟨.mv (.s 6), none⟩,
   ⟨.bin .add (.r 0) (.c (.int .i64 1)), none⟩,
   ⟨.mv (.r 1), none⟩] [] [] [(6, 2, none)])
 (.drop [12] [])))
def ir_undertowref19_Orderl2 : C :=
 .seq (.seq (.reg [⟨.mv (.s 3), none⟩,
   ⟨.len 1 (.r 0), none⟩,
   ⟨.mv (.s 0), none⟩,
   ⟨.len 1 (.r 2), none⟩,
   ⟨.bin .lss (.r 1) (.r 3), none⟩] [] [] [(9, 4, none)])
 (.cond (.s 9) (.skip)
  (.exit 0)))
 (.block 1 (.seq (.seq (.reg [⟨.mv (.c (.int .i64 (-1))), none⟩] [] [] [(5, 0, none)])
  (.drop [9] []))
  (.seq (.seq (.reg [⟨.mv (.c (.int .i64 0)), none⟩] [] [] [(6, 0, none)])
  (.block 2 (.loop ir_undertowref19_Orderl1)))
  (.seq (.seq (.seq (.reg [⟨.mv (.s 5), none⟩,
    ⟨.bin .lss (.r 0) (.c (.int .i64 0)), none⟩] [] [] [(13, 1, none)])
  (.drop [6, 10] []))
  (.cond (.s 13) (.seq (.seq (.reg [⟨.mv (.c (.nils)), none⟩,
     ⟨.mv (.c (.bool false)), none⟩] [] [] [(1, 0, none), (2, 1, none)])
   (.drop [0, 3, 4, 5, 13] [(false, 0)]))
   (.ret))
   (.skip)))
  (.seq (.seq (.reg [⟨.mv (.s 4), none⟩,
    ⟨.mv (.s 5), none⟩,
    ⟨.iaS 1 (.r 0) (.r 1), none⟩,
    ⟨.store 0 1 (.r 2) (.c (.bool true)), none⟩] [] [] [])
  (.drop [13] []))
  (.seq (.reg [⟨.mv (.s 3), none⟩,
    ⟨.mv (.s 5), none⟩,
    ⟨.lit 1 1 [[.int .i64 0]] [(0, (.r 1))], none⟩,
    ⟨.app 2 1 8 (.r 0) (.r 2), none⟩,
    ⟨.mv (.r 3), none⟩] [] [] [(3, 4, some 0)])
  (.drop [5] [])))))))
def ir_undertowref19_Order : Vm.Fn := ⟨[0, 2, 3, 4, 5, 6, 7, 8, 9, 17, 25, 36, 56, 59], 0, 1, [.slot 1, .slot 2],
 .seq (.seq (.reg [⟨.mv (.c (.nils)), none⟩,
   ⟨.mv (.c (.bool false)), none⟩] [] [] [(1, 0, none), (2, 1, none)])
 (.drop [1, 2] []))
 (.seq (.reg [⟨.onil 0, none⟩] [(false, 0)] [] [(3, 0, some 0)])
 (.seq (.reg [⟨.mv (.s 0), none⟩,
   ⟨.len 1 (.r 0), none⟩,
   ⟨.mksl [.bool false] 1 (.r 1) (.r 1), none⟩,
   ⟨.mv (.r 2), none⟩] [] [] [(4, 3, none)])
 (.seq (.block 0 (.loop ir_undertowref19_Orderl2))
 (.seq (.seq (.reg [⟨.mv (.s 3), none⟩,
   ⟨.mv (.r 0), none⟩,
   ⟨.mv (.c (.bool true)), none⟩] [] [] [(1, 1, none), (2, 2, none)])
 (.drop [0, 3, 4, 9] [(false, 0)]))
 (.ret)))))⟩
/-- 21: undertow/undertowref02.SameInts -/
def h21 : Vm.Hint := ⟨[0, 1, 4, 5, 10, 14, 25], [], [], [[0], [0, 0, 0, 0, 0], [0], [0], [0, 0, 0, 0], [0, 0, 0], [0, 0, 0, 0, 0, 0, 0, 0, 0], [0], [0]], [([2], []), ([], []), ([0, 1, 4], []), ([4], []), ([], []), ([6], []), ([5], []), ([0, 1, 3, 6], []), ([0, 1, 3, 5], [])], []⟩
def ir_undertowref02_SameIntsl0 : C :=
 .seq (.seq (.reg [⟨.mv (.s 3), none⟩,
   ⟨.mv (.s 0), none⟩,
   ⟨.len 1 (.r 1), none⟩,
   ⟨.bin .lss (.r 0) (.r 2), none⟩] [] [] [(5, 3, none)])
 (.cond (.s 5) (.skip)
  (.exit 0)))
 (.seq (.block 1 (.seq (.seq (.reg [⟨.mv (.s 0), none⟩,
    ⟨.mv (.s 3), none⟩,
    ⟨.iaS 1 (.r 0) (.r 1), none⟩,
    ⟨.load 0 false 1 (.r 2), none⟩,
    ⟨.mv (.s 1), none⟩,
    ⟨.mv (.s 3), none⟩,
    ⟨.iaS 1 (.r 4) (.r 5), none⟩,
    ⟨.load 0 false 1 (.r 6), none⟩,
    ⟨.bin .neq (.r 3) (.r 7), none⟩] [] [(2, 6), (2, 7), (3, 6), (3, 7)] [(6, 8, none)])
  (.drop [5] []))
  (.cond (.s 6) (.seq (.seq (.reg [⟨.mv (.c (.bool false)), none⟩] [] [] [(2, 0, none)])
   (.drop [0, 1, 3, 6] []))
   (.ret))
   (.skip))))
 (.seq (.reg [⟨.mv (.s 3), none⟩,
   ⟨.bin .add (.r 0) (.c (.int .i64 1)), none⟩,
   ⟨.mv (.r 1), none⟩] [] [] [(3, 2, none)])
 (.drop [6] [])))
def ir_undertowref02_SameInts : Vm.Fn := ⟨[0, 1, 4, 5, 10, 14, 25], 0, 0, [.slot 2],
 .seq (.seq (.reg [⟨.mv (.c (.bool false)), none⟩] [] [] [(2, 0, none)])
 (.drop [2] []))
 (.seq (.seq (.reg [⟨.mv (.s 0), none⟩,
   ⟨.len 1 (.r 0), none⟩,
   ⟨.mv (.s 1), none⟩,
   ⟨.len 1 (.r 2), none⟩,
   ⟨.bin .neq (.r 1) (.r 3), none⟩] [] [] [(4, 4, none)])
 (.cond (.s 4) (.seq (.seq (.reg [⟨.mv (.c (.bool false)), none⟩] [] [] [(2, 0, none)])
  (.drop [0, 1, 4] []))
  (.ret))
  (.skip)))
 (.seq (.seq (.seq (.reg [⟨.mv (.c (.int .i64 0)), none⟩] [] [] [(3, 0, none)])
 (.drop [4] []))
 (.block 0 (.loop ir_undertowref02_SameIntsl0)))
 (.seq (.seq (.reg [⟨.mv (.c (.bool true)), none⟩] [] [] [(2, 0, none)])
 (.drop [0, 1, 3, 5] []))
 (.ret))))⟩
/-- 22: undertow/undertowref19.Fits -/
def h22 : Vm.Hint := ⟨[0, 1, 4, 5, 6, 7, 12, 19, 44, 53, 68], [], [], [[0], [0, 0, 0, 0, 0], [0], [0, 0, 0, 0], [0], [0, 0, 0, 0], [0, 0, 0], [0, 0, 0, 0, 0, 0, 0, 0, 0, 0, 0, 0, 0, 0, 0, 0, 0, 0, 0, 0, 0, 0, 0], [0], [0, 0, 0, 0, 0, 0, 0], [0], [0, 0, 0], [0, 0, 0], [0, 0, 0, 0, 0, 0, 0, 0, 0, 0, 0, 0, 0], [0], [0]], [([2], []), ([], []), ([0, 1, 6], []), ([6], []), ([], []), ([], []), ([5, 9], []), ([7], []), ([0, 1, 3, 4, 8], []), ([8], []), ([], []), ([], []), ([10], []), ([9], []), ([0, 1, 3, 4, 5, 10], []), ([0, 1, 3, 4, 7], [])], []⟩
def ir_undertowref19_Fitsl0 : C :=
 .seq (.seq (.reg [⟨.mv (.s 5), none⟩,
   ⟨.mv (.s 4), none⟩,
   ⟨.bin .leq (.r 0) (.r 1), none⟩] [] [] [(9, 2, none)])
 (.cond (.s 9) (.skip)
  (.exit 2)))
 (.seq (.block 3 (.seq (.seq (.reg [⟨.mv (.s 0), none⟩,
    ⟨.mv (.s 1), none⟩,
    ⟨.mv (.s 4), none⟩,
    ⟨.iaS 1 (.r 1) (.r 2), none⟩,
    ⟨.load 0 false 1 (.r 3), none⟩,
    ⟨.iaS 1 (.r 0) (.r 4), none⟩,
    ⟨.load 0 false 1 (.r 5), none⟩,
    ⟨.mv (.s 1), none⟩,
    ⟨.mv (.s 5), none⟩,
    ⟨.iaS 1 (.r 7) (.r 8), none⟩,
    ⟨.load 0 false 1 (.r 9), none⟩,
    ⟨.iaS 1 (.r 6) (.r 10), none⟩,
    ⟨.load 0 false 1 (.r 11), none⟩] [] [(3, 9), (3, 10), (4, 9), (4, 10), (5, 9), (5, 10), (6, 9), (6, 10)] [(10, 12, none)])
  (.drop [9] []))
  (.cond (.s 10) (.seq (.seq (.reg [⟨.mv (.c (.bool false)), none⟩] [] [] [(2, 0, none)])
   (.drop [0, 1, 3, 4, 5, 10] []))
   (.ret))
   (.skip))))
 (.seq (.reg [⟨.mv (.s 5), none⟩,
   ⟨.bin .add (.r 0) (.c (.int .i64 1)), none⟩,
   ⟨.mv (.r 1), none⟩] [] [] [(5, 2, none)])
 (.drop [10] [])))
def ir_undertowref19_Fitsl1 : C :=
 .seq (.seq (.reg [⟨.mv (.s 4), none⟩,
   ⟨.mv (.s 1), none⟩,
   ⟨.len 1 (.r 1), none⟩,
   ⟨.bin .lss (.r 0) (.r 2), none⟩] [] [] [(7, 3, none)])
 (.cond (.s 7) (.skip)
  (.exit 0)))
 (.seq (.block 1 (.seq (.seq (.seq (.reg [⟨.mv (.s 1), none⟩,
    ⟨.mv (.s 4), none⟩,
    ⟨.iaS 1 (.r 0) (.r 1), none⟩,
    ⟨.load 0 false 1 (.r 2), none⟩,
    ⟨.bin .lss (.r 3) (.c (.int .i64 0)), none⟩,
    ⟨.mv (.r 4), none⟩,
    ⟨.mv (.s 1), some (5, false)⟩,
    ⟨.mv (.s 4), some (5, false)⟩,
    ⟨.iaS 1 (.r 6) (.r 7), some (5, false)⟩,
    ⟨.load 0 false 1 (.r 8), some (5, false)⟩,
    ⟨.mv (.s 0), some (5, false)⟩,
    ⟨.len 1 (.r 10), some (5, false)⟩,
    ⟨.bin .geq (.r 9) (.r 11), some (5, false)⟩,
    ⟨.pick (.r 5) (.c (.bool true)) (.r 12), none⟩,
    ⟨.mv (.r 13), none⟩,
    ⟨.mv (.s 3), some (14, false)⟩,
    ⟨.mv (.s 1), some (14, false)⟩,
    ⟨.mv (.s 4), some (14, false)⟩,
    ⟨.iaS 1 (.r 16) (.r 17), some (14, false)⟩,
    ⟨.load 0 false 1 (.r 18), some (14, false)⟩,
    ⟨.iaS 1 (.r 15) (.r 19), some (14, false)⟩,
    ⟨.load 0 false 1 (.r 20), some (14, false)⟩,
    ⟨.pick (.r 14) (.c (.bool true)) (.r 21), none⟩] [] [] [(8, 22, none)])
  (.drop [7] []))
  (.cond (.s 8) (.seq (.seq (.reg [⟨.mv (.c (.bool false)), none⟩] [] [] [(2, 0, none)])
   (.drop [0, 1, 3, 4, 8] []))
   (.ret))
   (.skip)))
  (.seq (.seq (.reg [⟨.mv (.s 3), none⟩,
    ⟨.mv (.s 1), none⟩,
    ⟨.mv (.s 4), none⟩,
    ⟨.iaS 1 (.r 1) (.r 2), none⟩,
    ⟨.load 0 false 1 (.r 3), none⟩,
    ⟨.iaS 1 (.r 0) (.r 4), none⟩,
    ⟨.store 0 1 (.r 5) (.c (.bool true)), none⟩] [] [] [])
  (.drop [8] []))
  (.seq (.reg [⟨.mv (.c (.int .i64 0)), none⟩] [] [] [(5, 0, none)])
  (.block 2 (.loop ir_undertowref19_Fitsl0))))))
 (.seq (.reg [⟨.mv (.s 4), none⟩,
   ⟨.bin .add (.r 0) (.c (.int .i64 1)), none⟩,
   ⟨.mv (.r 1), none⟩] [] [] [(4, 2, none)])
 (.drop [5, 9] [])))
def ir_undertowref19_Fits : Vm.Fn := ⟨[0, 1, 4, 5, 6, 7, 12, 19, 44, 53, 68], 0, 0, [.slot 2],
 .seq (.seq (.reg [⟨.mv (.c (.bool false)), none⟩] [] [] [(2, 0, none)])
 (.drop [2] []))
 (.seq (.seq (.reg [⟨.mv (.s 1), none⟩,
   ⟨.len 1 (.r 0), none⟩,
   ⟨.mv (.s 0), none⟩,
   ⟨.len 1 (.r 2), none⟩,
   ⟨.bin .neq (.r 1) (.r 3), none⟩] [] [] [(6, 4, none)])
 (.cond (.s 6) (.seq (.seq (.reg [⟨.mv (.c (.bool false)), none⟩] [] [] [(2, 0, none)])
  (.drop [0, 1, 6] []))
  (.ret))
  (.skip)))
 (.seq (.seq (.reg [⟨.mv (.s 0), none⟩,
   ⟨.len 1 (.r 0), none⟩,
   ⟨.mksl [.bool false] 1 (.r 1) (.r 1), none⟩,
   ⟨.mv (.r 2), none⟩] [] [] [(3, 3, none)])
 (.drop [6] []))
 (.seq (.seq (.reg [⟨.mv (.c (.int .i64 0)), none⟩] [] [] [(4, 0, none)])
 (.block 0 (.loop ir_undertowref19_Fitsl1)))
 (.seq (.seq (.reg [⟨.mv (.c (.bool true)), none⟩] [] [] [(2, 0, none)])
 (.drop [0, 1, 3, 4, 7] []))
 (.ret)))))⟩
/-- 23: undertow/undertowref19.New -/
def h23 : Vm.Hint := ⟨[0, 2, 3, 4, 7], [], [], [[0], [0], [0], [0, 0, 0], [0, 0, 0], [0, 0, 0, 1, 0, 0], [0, 0]], [([1], []), ([], []), ([], []), ([], []), ([], []), ([4], []), ([0, 2, 3, 4], [])], []⟩
def ir_undertowref19_Newl0 : C :=
 .seq (.seq (.reg [⟨.mv (.s 3), none⟩,
   ⟨.mv (.s 0), none⟩,
   ⟨.bin .lss (.r 0) (.r 1), none⟩] [] [] [(4, 2, none)])
 (.cond (.s 4) (.skip)
  (.exit 0)))
 (.seq (.block 1 (.seq (.reg [⟨.mv (.s 2), none⟩,
    ⟨.mv (.s 0), none⟩,
    ⟨.mksl [.bool false] 1 (.r 1) (.r 1), none⟩,
    ⟨.lit 1 1 [[.nils]] [(0, (.r 2))], none⟩,
    ⟨.app 0 1 24 (.r 0) (.r 3), none⟩,
    ⟨.mv (.r 4), none⟩] [] [] [(2, 5, none)])
  (.drop [4] [])))
 (.reg [⟨.mv (.s 3), none⟩,
   ⟨.bin .add (.r 0) (.c (.int .i64 1)), none⟩,
   ⟨.mv (.r 1), none⟩] [] [] [(3, 2, none)]))
def ir_undertowref19_New : Vm.Fn := ⟨[0, 2, 3, 4, 7], 0, 0, [.slot 1],
 .seq (.seq (.reg [⟨.mv (.c (.nils)), none⟩] [] [] [(1, 0, none)])
 (.drop [1] []))
 (.seq (.reg [⟨.mv (.c (.nils)), none⟩] [] [] [(2, 0, none)])
 (.seq (.seq (.reg [⟨.mv (.c (.int .i64 0)), none⟩] [] [] [(3, 0, none)])
 (.block 0 (.loop ir_undertowref19_Newl0)))
 (.seq (.seq (.reg [⟨.mv (.s 2), none⟩,
   ⟨.mv (.r 0), none⟩] [] [] [(1, 1, none)])
 (.drop [0, 2, 3, 4] []))
 (.ret))))⟩
/-- 24: (undertow/rel.row).each -/
def h24 : Vm.Hint := ⟨[0, 2, 3, 4, 5, 6, 7, 8, 9, 14], [], [3], [[0], [1], [0, 0, 0], [0], [0, 0, 0, 0, 0], [0, 0], [0, 0, 0, 0, 0], [0, 0, 0, 0, 0, 0, 1, 2, 0], [0, 0], [0, 0]], [([1], []), ([], []), ([0], []), ([], []), ([8], []), ([], []), ([], []), ([9], []), ([3, 4, 9], []), ([2, 5, 6, 7, 8], [(false, 0)])], []⟩
def ir_rel_row_eachl0 : C :=
 .seq (.seq (.reg [⟨.mv (.s 4), none⟩,
   ⟨.bin .neq (.r 0) (.c (.int .u64 0)), none⟩] [] [] [(9, 1, none)])
 (.cond (.s 9) (.skip)
  (.exit 2)))
 (.seq (.block 3 (.seq (.reg [⟨.mv (.s 2), none⟩,
    ⟨.mv (.s 3), none⟩,
    ⟨.bin .mul (.r 1) (.c (.int .i64 64)), none⟩,
    ⟨.mv (.s 4), none⟩,
    ⟨.call .val n_math_bits_TrailingZeros64 [(.r 3)], none⟩,
    ⟨.bin .add (.r 2) (.r 4), none⟩,
    ⟨.lit 1 1 [[.int .i64 0]] [(0, (.r 5))], none⟩,
    ⟨.app 2 1 8 (.r 0) (.r 6), none⟩,
    ⟨.mv (.r 7), none⟩] [] [] [(2, 8, some 0)])
  (.drop [9] [])))
 (.reg [⟨.mv (.s 4), none⟩,
   ⟨.mv (.s 4), none⟩,
   ⟨.bin .sub (.r 1) (.c (.int .u64 1)), none⟩,
   ⟨.bin .and (.r 0) (.r 2), none⟩,
   ⟨.mv (.r 3), none⟩] [] [] [(4, 4, none)]))
def ir_rel_row_eachl1 : C :=
 .seq (.reg [⟨.bin .lss (.s 7) (.s 6), none⟩] [] [] [(8, 0, none)])
 (.seq (.cond (.s 8) (.skip)
  (.exit 0))
 (.seq (.block 1 (.seq (.seq (.reg [⟨.mv (.s 7), none⟩,
    ⟨.iaS 1 (.s 5) (.s 7), none⟩,
    ⟨.load 0 false 1 (.r 1), none⟩,
    ⟨.mv (.r 0), none⟩,
    ⟨.mv (.r 2), none⟩] [] [] [(3, 3, none), (4, 4, none)])
  (.drop [8] []))
  (.block 2 (.loop ir_rel_row_eachl0))))
 (.seq (.reg [⟨.bin .add (.s 7) (.c (.int .i64 1)), none⟩,
   ⟨.mv (.r 0), none⟩] [] [] [(7, 1, none)])
 (.drop [3, 4, 9] []))))
def ir_rel_row_each : Vm.Fn := ⟨[0, 2, 3, 4, 5, 6, 7, 8, 9, 14], 0, 1, [.slot 1],
 .seq (.seq (.reg [⟨.mv (.c (.nils)), none⟩] [] [] [(1, 0, none)])
 (.drop [1] []))
 (.seq (.reg [⟨.onil 0, none⟩] [(false, 0)] [] [(2, 0, some 0)])
 (.seq (.seq (.seq (.reg [⟨.mv (.s 0), none⟩,
   ⟨.len 1 (.r 0), none⟩,
   ⟨.mv (.c (.int .i64 0)), none⟩] [] [] [(5, 0, none), (6, 1, none), (7, 2, none)])
 (.drop [0] []))
 (.block 0 (.loop ir_rel_row_eachl1)))
 (.seq (.seq (.reg [⟨.mv (.s 2), none⟩,
   ⟨.mv (.r 0), none⟩] [] [] [(1, 1, none)])
 (.drop [2, 5, 6, 7, 8] [(false, 0)]))
 (.ret))))⟩
/-- 25: (undertow/rel.row).join -/
def h25 : Vm.Hint := ⟨[0, 1, 4, 5, 6, 7, 8, 9, 10, 11], [], [], [[0], [0], [0, 0, 0], [0], [0, 0, 0, 0, 0], [0, 0, 0, 0, 0, 0, 0, 0, 0, 0, 0], [0, 0, 0, 0, 0, 0, 0, 0], [0, 0], [0, 0]], [([2], []), ([], []), ([1], []), ([], []), ([9], []), ([], []), ([4, 5], []), ([], []), ([0, 3, 6, 7, 8, 9], [])], []⟩
def ir_rel_row_joinl0 : C :=
 .seq (.reg [⟨.bin .lss (.s 8) (.s 7), none⟩] [] [] [(9, 0, none)])
 (.seq (.cond (.s 9) (.skip)
  (.exit 0))
 (.seq (.block 1 (.seq (.seq (.reg [⟨.mv (.s 8), none⟩,
    ⟨.iaS 1 (.s 6) (.s 8), none⟩,
    ⟨.load 0 false 1 (.r 1), none⟩,
    ⟨.mv (.r 0), none⟩,
    ⟨.mv (.r 2), none⟩] [] [] [(4, 3, none), (5, 4, none)])
  (.drop [9] []))
  (.seq (.reg [⟨.mv (.s 3), none⟩,
    ⟨.mv (.r 0), none⟩,
    ⟨.mv (.s 5), some (1, false)⟩,
    ⟨.mv (.s 0), some (1, false)⟩,
    ⟨.mv (.s 4), some (1, false)⟩,
    ⟨.iaS 1 (.r 3) (.r 4), some (1, false)⟩,
    ⟨.load 0 false 1 (.r 5), some (1, false)⟩,
    ⟨.bin .andNot (.r 2) (.r 6), some (1, false)⟩,
    ⟨.bin .neq (.r 7) (.c (.int .u64 0)), some (1, false)⟩,
    ⟨.pick (.r 1) (.c (.bool true)) (.r 8), none⟩,
    ⟨.mv (.r 9), none⟩] [] [] [(3, 10, none)])
  (.seq (.reg [⟨.mv (.s 0), none⟩,
    ⟨.mv (.s 4), none⟩,
    ⟨.iaS 1 (.r 0) (.r 1), none⟩,
    ⟨.load 0 false 1 (.r 2), none⟩,
    ⟨.mv (.s 5), none⟩,
    ⟨.bin .or (.r 3) (.r 4), none⟩,
    ⟨.iaS 1 (.r 0) (.r 1), none⟩,
    ⟨.store 0 1 (.r 6) (.r 5), none⟩] [] [] [])
  (.drop [4, 5] [])))))
 (.reg [⟨.bin .add (.s 8) (.c (.int .i64 1)), none⟩,
   ⟨.mv (.r 0), none⟩] [] [] [(8, 1, none)])))
def ir_rel_row_join : Vm.Fn := ⟨[0, 1, 4, 5, 6, 7, 8, 9, 10, 11], 0, 0, [.slot 2],
 .seq (.seq (.reg [⟨.mv (.c (.bool false)), none⟩] [] [] [(2, 0, none)])
 (.drop [2] []))
 (.seq (.reg [⟨.mv (.c (.bool false)), none⟩] [] [] [(3, 0, none)])
 (.seq (.seq (.seq (.reg [⟨.mv (.s 1), none⟩,
   ⟨.len 1 (.r 0), none⟩,
   ⟨.mv (.c (.int .i64 0)), none⟩] [] [] [(6, 0, none), (7, 1, none), (8, 2, none)])
 (.drop [1] []))
 (.block 0 (.loop ir_rel_row_joinl0)))
 (.seq (.seq (.reg [⟨.mv (.s 3), none⟩,
   ⟨.mv (.r 0), none⟩] [] [] [(2, 1, none)])
 (.drop [0, 3, 6, 7, 8, 9] []))
 (.ret))))⟩
/-- 26: (*undertow/rel.Rel).is -/
def h26 : Vm.Hint := ⟨[0, 1, 4], [], [], [[0], [0, 0, 0, 0, 0, 0, 0, 0, 0]], [([2], []), ([0, 1], [])], []⟩
def ir_rel_Rel_is : Vm.Fn := ⟨[0, 1, 4], 0, 0, [.slot 2],
 .seq (.seq (.reg [⟨.mv (.c (.bool false)), none⟩] [] [] [(2, 0, none)])
 (.drop [2] []))
 (.seq (.seq (.reg [⟨.mv (.s 1), none⟩,
   ⟨.bin .geq (.r 0) (.c (.int .i64 0)), none⟩,
   ⟨.mv (.r 1), none⟩,
   ⟨.mv (.s 1), some (2, true)⟩,
   ⟨.mv (.s 0), some (2, true)⟩,
   ⟨.call .val n_rel_Rel_Len [(.r 4)], some (2, true)⟩,
   ⟨.bin .lss (.r 3) (.r 5), some (2, true)⟩,
   ⟨.pick (.r 2) (.r 6) (.c (.bool false)), none⟩,
   ⟨.mv (.r 7), none⟩] [] [] [(2, 8, none)])
 (.drop [0, 1] []))
 (.ret))⟩
/-- 27: (undertow/rel.row).has -/
def h27 : Vm.Hint := ⟨[0, 1, 4], [], [], [[0], [0, 0, 0, 0, 0, 0, 0, 0, 0, 0, 0]], [([2], []), ([0, 1], [])], []⟩
def ir_rel_row_has : Vm.Fn := ⟨[0, 1, 4], 0, 0, [.slot 2],
 .seq (.seq (.reg [⟨.mv (.c (.bool false)), none⟩] [] [] [(2, 0, none)])
 (.drop [2] []))
 (.seq (.seq (.reg [⟨.mv (.s 0), none⟩,
   ⟨.mv (.s 1), none⟩,
   ⟨.bin .quo (.r 1) (.c (.int .i64 64)), none⟩,
   ⟨.iaS 1 (.r 0) (.r 2), none⟩,
   ⟨.load 0 false 1 (.r 3), none⟩,
   ⟨.mv (.s 1), none⟩,
   ⟨.bin .rem (.r 5) (.c (.int .i64 64)), none⟩,
   ⟨.bin .shr (.r 4) (.r 6), none⟩,
   ⟨.bin .and (.r 7) (.c (.int .u64 1)), none⟩,
   ⟨.bin .eql (.r 8) (.c (.int .u64 1)), none⟩,
   ⟨.mv (.r 9), none⟩] [] [] [(2, 10, none)])
 (.drop [0, 1] []))
 (.ret))⟩
/-- 28: (undertow/rel.row).add -/
def h28 : Vm.Hint := ⟨[0, 1], [], [], [[0, 0, 0, 0, 0, 0, 0, 0, 0, 0, 0]], [([0, 1], [])], []⟩
def ir_rel_row_add : Vm.Fn := ⟨[0, 1], 0, 0, [],
 .seq (.reg [⟨.mv (.s 0), none⟩,
   ⟨.mv (.s 1), none⟩,
   ⟨.bin .quo (.r 1) (.c (.int .i64 64)), none⟩,
   ⟨.iaS 1 (.r 0) (.r 2), none⟩,
   ⟨.load 0 false 1 (.r 3), none⟩,
   ⟨.mv (.s 1), none⟩,
   ⟨.bin .rem (.r 5) (.c (.int .i64 64)), none⟩,
   ⟨.bin .shl (.c (.int .u64 1)) (.r 6), none⟩,
   ⟨.bin .or (.r 4) (.r 7), none⟩,
   ⟨.iaS 1 (.r 0) (.r 2), none⟩,
   ⟨.store 0 1 (.r 9) (.r 8), none⟩] [] [] [])
 (.drop [0, 1] [])⟩
/-- 29: math/bits.TrailingZeros64 -/
def h29 : Vm.Hint := ⟨[0, 2, 4], [], [], [[0], [0, 0], [0], [0, 0, 0, 0, 0, 0, 0, 0, 0, 0]], [([1], []), ([], []), ([0, 2], []), ([0, 2], [])], []⟩
def ir_math_bits_TrailingZeros64 : Vm.Fn := ⟨[0, 2, 4], 0, 0, [.slot 1],
 .seq (.seq (.reg [⟨.mv (.c (.int .i64 0)), none⟩] [] [] [(1, 0, none)])
 (.drop [1] []))
 (.seq (.seq (.reg [⟨.mv (.s 0), none⟩,
   ⟨.bin .eql (.r 0) (.c (.int .u64 0)), none⟩] [] [] [(2, 1, none)])
 (.cond (.s 2) (.seq (.seq (.reg [⟨.mv (.c (.int .i64 64)), none⟩] [] [] [(1, 0, none)])
  (.drop [0, 2] []))
  (.ret))
  (.skip)))
 (.seq (.seq (.reg [⟨.mv (.s 0), none⟩,
   ⟨.mv (.s 0), none⟩,
   ⟨.un .neg (.r 1), none⟩,
   ⟨.bin .and (.r 0) (.r 2), none⟩,
   ⟨.bin .mul (.r 3) (.c (.int .u64 285870213051353865)), none⟩,
   ⟨.bin .shr (.r 4) (.c (.int .u64 58)), none⟩,
   ⟨.iaA 64 1 (.c (.ip false glV 0)) (.r 5), none⟩,
   ⟨.load 0 false 1 (.r 6), none⟩,
   ⟨.i2i .i64 (.r 7), none⟩,
   ⟨.mv (.r 8), none⟩] [] [] [(1, 9, none)])
 (.drop [0, 2] []))
 (.ret)))⟩
def hints (f : Nat) : Option Vm.Hint := if f < 16 then (if f < 9 then (if f < 6 then (if f < 4 then (if f = 3 then some h3 else none) else (if f < 5 then (if f = 4 then some h4 else none) else (if f = 5 then some h5 else none))) else (if f < 7 then (if f = 6 then some h6 else none) else (if f < 8 then (if f = 7 then some h7 else none) else (if f = 8 then some h8 else none)))) else (if f < 12 then (if f < 10 then (if f = 9 then some h9 else none) else (if f < 11 then (if f = 10 then some h10 else none) else (if f = 11 then some h11 else none))) else (if f < 14 then (if f < 13 then (if f = 12 then some h12 else none) else (if f = 13 then some h13 else none)) else (if f < 15 then (if f = 14 then some h14 else none) else (if f = 15 then some h15 else none))))) else (if f < 23 then (if f < 19 then (if f < 17 then (if f = 16 then some h16 else none) else (if f < 18 then (if f = 17 then some h17 else none) else (if f = 18 then some h18 else none))) else (if f < 21 then (if f < 20 then (if f = 19 then some h19 else none) else (if f = 20 then some h20 else none)) else (if f < 22 then (if f = 21 then some h21 else none) else (if f = 22 then some h22 else none)))) else (if f < 26 then (if f < 24 then (if f = 23 then some h23 else none) else (if f < 25 then (if f = 24 then some h24 else none) else (if f = 25 then some h25 else none))) else (if f < 28 then (if f < 27 then (if f = 26 then some h26 else none) else (if f = 27 then some h27 else none)) else (if f < 29 then (if f = 28 then some h28 else none) else (if f = 29 then some h29 else none)))))
noncomputable abbrev pg : Vm.Pg := pgOf Go.Proofs.Tryd.prog hints glT
theorem fn_undertowlaw19_RelCloses : pg.fn 3 = some ir_undertowlaw19_RelCloses := by kernel_rfl
theorem fn_undertowlaw19_RelPairs : pg.fn 4 = some ir_undertowlaw19_RelPairs := by kernel_rfl
theorem fn_undertowlaw19_RelOrders : pg.fn 5 = some ir_undertowlaw19_RelOrders := by kernel_rfl
theorem fn_undertowlaw19_RelMeets : pg.fn 6 = some ir_undertowlaw19_RelMeets := by kernel_rfl
theorem fn_undertowlaw19_alive : pg.fn 7 = some ir_undertowlaw19_alive := by kernel_rfl
theorem fn_undertowlaw19_both : pg.fn 8 = some ir_undertowlaw19_both := by kernel_rfl
theorem fn_undertowlaw19_same : pg.fn 9 = some ir_undertowlaw19_same := by kernel_rfl
theorem fn_rel_Rel_Close : pg.fn 10 = some ir_rel_Rel_Close := by kernel_rfl
theorem fn_undertowref19_Close : pg.fn 11 = some ir_undertowref19_Close := by kernel_rfl
theorem fn_rel_Rel_Has : pg.fn 12 = some ir_rel_Rel_Has := by kernel_rfl
theorem fn_rel_Rel_Join : pg.fn 13 = some ir_rel_Rel_Join := by kernel_rfl
theorem fn_rel_New : pg.fn 14 = some ir_rel_New := by kernel_rfl
theorem fn_rel_Rel_Order : pg.fn 15 = some ir_rel_Rel_Order := by kernel_rfl
theorem fn_rel_Rel_Len : pg.fn 16 = some ir_rel_Rel_Len := by kernel_rfl
theorem fn_rel_Rel_Add : pg.fn 17 = some ir_rel_Rel_Add := by kernel_rfl
theorem fn_rel_Rel_Pairs : pg.fn 18 = some ir_rel_Rel_Pairs := by kernel_rfl
theorem fn_rel_Rel_Fits : pg.fn 19 = some ir_rel_Rel_Fits := by kernel_rfl
theorem fn_undertowref19_Order : pg.fn 20 = some ir_undertowref19_Order := by kernel_rfl
theorem fn_undertowref02_SameInts : pg.fn 21 = some ir_undertowref02_SameInts := by kernel_rfl
theorem fn_undertowref19_Fits : pg.fn 22 = some ir_undertowref19_Fits := by kernel_rfl
theorem fn_undertowref19_New : pg.fn 23 = some ir_undertowref19_New := by kernel_rfl
theorem fn_rel_row_each : pg.fn 24 = some ir_rel_row_each := by kernel_rfl
theorem fn_rel_row_join : pg.fn 25 = some ir_rel_row_join := by kernel_rfl
theorem fn_rel_Rel_is : pg.fn 26 = some ir_rel_Rel_is := by kernel_rfl
theorem fn_rel_row_has : pg.fn 27 = some ir_rel_row_has := by kernel_rfl
theorem fn_rel_row_add : pg.fn 28 = some ir_rel_row_add := by kernel_rfl
theorem fn_math_bits_TrailingZeros64 : pg.fn 29 = some ir_math_bits_TrailingZeros64 := by kernel_rfl
def irL : List (Nat × Vm.Fn) := [(3, ir_undertowlaw19_RelCloses), (4, ir_undertowlaw19_RelPairs), (5, ir_undertowlaw19_RelOrders), (6, ir_undertowlaw19_RelMeets), (7, ir_undertowlaw19_alive), (8, ir_undertowlaw19_both), (9, ir_undertowlaw19_same), (10, ir_rel_Rel_Close), (11, ir_undertowref19_Close), (12, ir_rel_Rel_Has), (13, ir_rel_Rel_Join), (14, ir_rel_New), (15, ir_rel_Rel_Order), (16, ir_rel_Rel_Len), (17, ir_rel_Rel_Add), (18, ir_rel_Rel_Pairs), (19, ir_rel_Rel_Fits), (20, ir_undertowref19_Order), (21, ir_undertowref02_SameInts), (22, ir_undertowref19_Fits), (23, ir_undertowref19_New), (24, ir_rel_row_each), (25, ir_rel_row_join), (26, ir_rel_Rel_is), (27, ir_rel_row_has), (28, ir_rel_row_add), (29, ir_math_bits_TrailingZeros64)]
theorem irL_ok : ∀ q ∈ irL, pg.fn q.1 = some q.2 := by
  simp only [irL, List.forall_mem_cons]
  exact ⟨fn_undertowlaw19_RelCloses, fn_undertowlaw19_RelPairs, fn_undertowlaw19_RelOrders, fn_undertowlaw19_RelMeets, fn_undertowlaw19_alive, fn_undertowlaw19_both, fn_undertowlaw19_same, fn_rel_Rel_Close, fn_undertowref19_Close, fn_rel_Rel_Has, fn_rel_Rel_Join, fn_rel_New, fn_rel_Rel_Order, fn_rel_Rel_Len, fn_rel_Rel_Add, fn_rel_Rel_Pairs, fn_rel_Rel_Fits, fn_undertowref19_Order, fn_undertowref02_SameInts, fn_undertowref19_Fits, fn_undertowref19_New, fn_rel_row_each, fn_rel_row_join, fn_rel_Rel_is, fn_rel_row_has, fn_rel_row_add, fn_math_bits_TrailingZeros64, by simp⟩
end Go.Proofs.YtkjfedgjjgobaaaDoor
