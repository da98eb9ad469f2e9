/- The functions' own form, printed by a tool of this session out of the given translation. -/
import Derived.Test.YtnmljkhpmcgdoaaVf
import Derived.Test.YtnmljkhpmcgdoaaChecked
import Derived.KernelRfl
namespace Go.Proofs.Ytnmljkhpmcgdoaa
open Go Go.Vm
abbrev n_undertowlaw02_MomentSteps : Nat := 3
abbrev n_undertowlaw02_MomentPlaces : Nat := 4
abbrev n_undertowlaw02_MomentOrders : Nat := 5
abbrev n_undertowlaw02_MomentTotal : Nat := 6
abbrev n_undertowlaw02_MomentSorts : Nat := 7
abbrev n_undertowlaw02_alive : Nat := 8
abbrev n_moment_Of : Nat := 9
abbrev n_moment_Step : Nat := 10
abbrev n_undertowref02_Step : Nat := 11
abbrev n_moment_First : Nat := 12
abbrev n_moment_Later : Nat := 13
abbrev n_undertowref02_Rank : Nat := 14
abbrev n_undertowref02_None : Nat := 15
abbrev n_moment_Never : Nat := 16
abbrev n_moment_Less : Nat := 17
abbrev n_undertowref02_Less : Nat := 18
abbrev n_moment_Same : Nat := 19
abbrev n_undertowref02_Sort : Nat := 20
abbrev n_undertowref02_SameInts : Nat := 21
abbrev n_moment_Sort : Nat := 22
abbrev n_moment_Last : Nat := 23
abbrev n_math_IsNaN : Nat := 24
abbrev n_math_IsInf : Nat := 25
abbrev n_math_Signbit : Nat := 26
abbrev n_math_Floor : Nat := 27
abbrev n_math_Inf : Nat := 29
abbrev n_math_NaN : Nat := 30
abbrev n_math_Abs : Nat := 31
abbrev n_math_floor : Nat := 33
abbrev n_math_Modf : Nat := 35
abbrev n_math_Trunc : Nat := 36
abbrev n_math_Copysign : Nat := 37
abbrev n_math_trunc : Nat := 39
/-- 3: undertow/undertowlaw02.MomentSteps -/
def h3 : Vm.Hint := ⟨[0, 1, 4, 5, 6, 7, 8, 9, 10, 11, 12, 13, 14, 16, 39, 54, 60], [], [], [[0], [0, 0], [0], [0, 0, 0, 0, 0, 0, 0], [0, 0, 0, 0, 0, 0, 0], [0, 0, 0, 0, 0, 0, 0], [0, 0, 0, 0, 0, 0, 0, 0], [0], [0, 0, 0, 0], [0, 0, 0, 0, 0, 0, 0, 0, 0, 0, 0, 0, 0], [0], [0, 0, 0, 0, 0, 0], [0, 0, 0, 0, 0, 0, 0, 0, 0, 0], [0, 0, 0, 0, 0, 0, 0], [0, 0, 0, 0, 0, 0, 0, 0, 0, 0, 0, 0, 0]], [([2], []), ([], []), ([0, 1, 13], []), ([13], []), ([], []), ([1], []), ([5, 6, 7, 8], []), ([0, 3, 4, 14], []), ([14], []), ([9, 10], []), ([0, 3, 4, 15], []), ([15], []), ([0, 3, 4, 16], []), ([3, 16], []), ([0, 4, 11, 12], [])]⟩
def ir_undertowlaw02_MomentSteps : Vm.Fn := ⟨[0, 1, 4, 5, 6, 7, 8, 9, 10, 11, 12, 13, 14, 16, 39, 54, 60], 0, 0, [.slot 2],
 .seq (.seq (.reg [⟨.mv (.c (.bool false)), none⟩] [] [] [(2, 0, none)])
 (.drop [2] []))
 (.seq (.seq (.reg [⟨.call .val n_undertowlaw02_alive [], none⟩,
   ⟨.un .not (.r 0), none⟩] [] [] [(13, 1, none)])
 (.cond (.s 13) (.seq (.seq (.reg [⟨.mv (.c (.bool false)), none⟩] [] [] [(2, 0, none)])
  (.drop [0, 1, 13] []))
  (.ret))
  (.skip)))
 (.seq (.seq (.reg [⟨.mv (.s 0), none⟩,
   ⟨.call .val n_moment_Of [(.r 0)], none⟩,
   ⟨.mv (.r 1), none⟩,
   ⟨.ext (.r 2) 0, none⟩,
   ⟨.ext (.r 2) 1, none⟩,
   ⟨.mv (.r 3), none⟩,
   ⟨.mv (.r 4), none⟩] [] [] [(3, 5, none), (4, 6, none)])
 (.drop [13] []))
 (.seq (.reg [⟨.mv (.s 1), none⟩,
   ⟨.call .val n_moment_Step [(.r 0)], none⟩,
   ⟨.mv (.r 1), none⟩,
   ⟨.ext (.r 2) 0, none⟩,
   ⟨.ext (.r 2) 1, none⟩,
   ⟨.mv (.r 3), none⟩,
   ⟨.mv (.r 4), none⟩] [] [] [(5, 5, none), (6, 6, none)])
 (.seq (.seq (.reg [⟨.mv (.s 1), none⟩,
   ⟨.call .val n_undertowref02_Step [(.r 0)], none⟩,
   ⟨.mv (.r 1), none⟩,
   ⟨.ext (.r 2) 0, none⟩,
   ⟨.ext (.r 2) 1, none⟩,
   ⟨.mv (.r 3), none⟩,
   ⟨.mv (.r 4), none⟩] [] [] [(7, 5, none), (8, 6, none)])
 (.drop [1] []))
 (.seq (.seq (.seq (.reg [⟨.mv (.s 5), none⟩,
   ⟨.mv (.s 7), none⟩,
   ⟨.bin .neq (.r 0) (.r 1), none⟩,
   ⟨.mv (.r 2), none⟩,
   ⟨.mv (.s 6), some (3, false)⟩,
   ⟨.mv (.s 8), some (3, false)⟩,
   ⟨.eqb true (.r 4) (.r 5), some (3, false)⟩,
   ⟨.pick (.r 3) (.c (.bool true)) (.r 6), none⟩] [] [] [(14, 7, none)])
 (.drop [5, 6, 7, 8] []))
 (.cond (.s 14) (.seq (.seq (.reg [⟨.mv (.c (.bool false)), none⟩] [] [] [(2, 0, none)])
  (.drop [0, 3, 4, 14] []))
  (.ret))
  (.skip)))
 (.seq (.seq (.reg [⟨.call .val n_moment_First [], none⟩,
   ⟨.call .val n_moment_Later [], none⟩,
   ⟨.mv (.r 0), none⟩,
   ⟨.mv (.r 1), none⟩] [] [] [(9, 2, none), (10, 3, none)])
 (.drop [14] []))
 (.seq (.seq (.seq (.reg [⟨.mv (.s 9), none⟩,
   ⟨.call .val n_undertowref02_Rank [(.r 0)], none⟩,
   ⟨.bin .neq (.r 1) (.c (.int .u64 4503599627370495)), none⟩,
   ⟨.mv (.r 2), none⟩,
   ⟨.mv (.s 10), some (3, false)⟩,
   ⟨.call .val n_undertowref02_Rank [(.r 4)], some (3, false)⟩,
   ⟨.bin .neq (.r 5) (.c (.int .u64 18442240474082181120)), some (3, false)⟩,
   ⟨.pick (.r 3) (.c (.bool true)) (.r 6), none⟩,
   ⟨.mv (.r 7), none⟩,
   ⟨.call .val n_moment_Never [], some (8, false)⟩,
   ⟨.call .val n_undertowref02_None [(.r 9)], some (8, false)⟩,
   ⟨.un .not (.r 10), some (8, false)⟩,
   ⟨.pick (.r 8) (.c (.bool true)) (.r 11), none⟩] [] [] [(15, 12, none)])
 (.drop [9, 10] []))
 (.cond (.s 15) (.seq (.seq (.reg [⟨.mv (.c (.bool false)), none⟩] [] [] [(2, 0, none)])
  (.drop [0, 3, 4, 15] []))
  (.ret))
  (.skip)))
 (.seq (.seq (.seq (.reg [⟨.mv (.s 0), none⟩,
   ⟨.bin .lss (.r 0) (.c (.int .i64 0)), none⟩,
   ⟨.mv (.r 1), none⟩,
   ⟨.mv (.s 0), some (2, false)⟩,
   ⟨.bin .gtr (.r 3) (.c (.int .i64 9007199254740992)), some (2, false)⟩,
   ⟨.pick (.r 2) (.c (.bool true)) (.r 4), none⟩] [] [] [(16, 5, none)])
 (.drop [15] []))
 (.cond (.s 16) (.seq (.seq (.reg [⟨.call .val n_undertowlaw02_alive [], none⟩,
    ⟨.mv (.r 0), none⟩,
    ⟨.mv (.s 4), some (1, true)⟩,
    ⟨.un .not (.r 2), some (1, true)⟩,
    ⟨.pick (.r 1) (.r 3) (.c (.bool false)), none⟩,
    ⟨.mv (.r 4), none⟩,
    ⟨.mv (.s 3), some (5, true)⟩,
    ⟨.call .val n_undertowref02_None [(.r 6)], some (5, true)⟩,
    ⟨.pick (.r 5) (.r 7) (.c (.bool false)), none⟩,
    ⟨.mv (.r 8), none⟩] [] [] [(2, 9, none)])
  (.drop [0, 3, 4, 16] []))
  (.ret))
  (.skip)))
 (.seq (.seq (.reg [⟨.mv (.s 3), none⟩,
   ⟨.call .val n_undertowref02_Step [(.r 0)], none⟩,
   ⟨.mv (.r 1), none⟩,
   ⟨.ext (.r 2) 0, none⟩,
   ⟨.ext (.r 2) 1, none⟩,
   ⟨.mv (.r 3), none⟩,
   ⟨.mv (.r 4), none⟩] [] [] [(11, 5, none), (12, 6, none)])
 (.drop [3, 16] []))
 (.seq (.seq (.reg [⟨.call .val n_undertowlaw02_alive [], none⟩,
   ⟨.mv (.r 0), none⟩,
   ⟨.mv (.s 4), some (1, true)⟩,
   ⟨.pick (.r 1) (.r 2) (.c (.bool false)), none⟩,
   ⟨.mv (.r 3), none⟩,
   ⟨.mv (.s 12), some (4, true)⟩,
   ⟨.pick (.r 4) (.r 5) (.c (.bool false)), none⟩,
   ⟨.mv (.r 6), none⟩,
   ⟨.mv (.s 11), some (7, true)⟩,
   ⟨.mv (.s 0), some (7, true)⟩,
   ⟨.bin .eql (.r 8) (.r 9), some (7, true)⟩,
   ⟨.pick (.r 7) (.r 10) (.c (.bool false)), none⟩,
   ⟨.mv (.r 11), none⟩] [] [] [(2, 12, none)])
 (.drop [0, 4, 11, 12] []))
 (.ret)))))))))))⟩
/-- 4: undertow/undertowlaw02.MomentPlaces -/
def h4 : Vm.Hint := ⟨[0, 1, 2, 6, 7, 8, 9, 10, 11, 12, 14, 32, 38], [], [], [[0], [0, 0], [0], [0, 0, 0, 0, 0, 0, 0], [0, 0, 0, 0, 0, 0, 0], [0, 0, 0, 0, 0, 0, 0, 0], [0], [0, 0, 0, 0, 0, 0], [0, 0], [0, 0, 0, 0, 0, 0, 0], [0, 0, 0, 0, 0, 0, 0, 0, 0, 0, 0, 0, 0, 0, 0, 0, 0, 0, 0, 0, 0, 0, 0, 0, 0, 0, 0, 0, 0]], [([3], []), ([], []), ([0, 1, 2, 10], []), ([10], []), ([], []), ([2], []), ([0, 1, 4, 5, 6, 7, 11], []), ([5, 7, 11], []), ([0, 1, 4, 6, 12], []), ([12], []), ([0, 1, 4, 6, 8, 9], [])]⟩
def ir_undertowlaw02_MomentPlaces : Vm.Fn := ⟨[0, 1, 2, 6, 7, 8, 9, 10, 11, 12, 14, 32, 38], 0, 0, [.slot 3],
 .seq (.seq (.reg [⟨.mv (.c (.bool false)), none⟩] [] [] [(3, 0, none)])
 (.drop [3] []))
 (.seq (.seq (.reg [⟨.call .val n_undertowlaw02_alive [], none⟩,
   ⟨.un .not (.r 0), none⟩] [] [] [(10, 1, none)])
 (.cond (.s 10) (.seq (.seq (.reg [⟨.mv (.c (.bool false)), none⟩] [] [] [(3, 0, none)])
  (.drop [0, 1, 2, 10] []))
  (.ret))
  (.skip)))
 (.seq (.seq (.reg [⟨.mv (.s 0), none⟩,
   ⟨.call .val n_moment_Of [(.r 0)], none⟩,
   ⟨.mv (.r 1), none⟩,
   ⟨.ext (.r 2) 0, none⟩,
   ⟨.ext (.r 2) 1, none⟩,
   ⟨.mv (.r 3), none⟩,
   ⟨.mv (.r 4), none⟩] [] [] [(4, 5, none), (5, 6, none)])
 (.drop [10] []))
 (.seq (.reg [⟨.mv (.s 1), none⟩,
   ⟨.call .val n_moment_Of [(.r 0)], none⟩,
   ⟨.mv (.r 1), none⟩,
   ⟨.ext (.r 2) 0, none⟩,
   ⟨.ext (.r 2) 1, none⟩,
   ⟨.mv (.r 3), none⟩,
   ⟨.mv (.r 4), none⟩] [] [] [(6, 5, none), (7, 6, none)])
 (.seq (.seq (.seq (.reg [⟨.call .val n_moment_Never [], none⟩,
   ⟨.mv (.s 2), none⟩,
   ⟨.call .val n_moment_Less [(.r 0), (.r 1)], none⟩,
   ⟨.mv (.r 2), none⟩,
   ⟨.mv (.s 2), some (3, false)⟩,
   ⟨.call .val n_moment_First [], some (3, false)⟩,
   ⟨.call .val n_moment_Less [(.r 4), (.r 5)], some (3, false)⟩,
   ⟨.pick (.r 3) (.c (.bool true)) (.r 6), none⟩] [] [] [(11, 7, none)])
 (.drop [2] []))
 (.cond (.s 11) (.seq (.seq (.reg [⟨.mv (.c (.bool false)), none⟩] [] [] [(3, 0, none)])
  (.drop [0, 1, 4, 5, 6, 7, 11] []))
  (.ret))
  (.skip)))
 (.seq (.seq (.seq (.reg [⟨.mv (.s 5), none⟩,
   ⟨.un .not (.r 0), none⟩,
   ⟨.mv (.r 1), none⟩,
   ⟨.mv (.s 7), some (2, false)⟩,
   ⟨.un .not (.r 3), some (2, false)⟩,
   ⟨.pick (.r 2) (.c (.bool true)) (.r 4), none⟩] [] [] [(12, 5, none)])
 (.drop [5, 7, 11] []))
 (.cond (.s 12) (.seq (.seq (.reg [⟨.call .val n_undertowlaw02_alive [], none⟩,
    ⟨.mv (.r 0), none⟩] [] [] [(3, 1, none)])
  (.drop [0, 1, 4, 6, 12] []))
  (.ret))
  (.skip)))
 (.seq (.seq (.reg [⟨.mv (.s 4), none⟩,
   ⟨.call .val n_moment_Step [(.r 0)], none⟩,
   ⟨.mv (.r 1), none⟩,
   ⟨.ext (.r 2) 0, none⟩,
   ⟨.ext (.r 2) 1, none⟩,
   ⟨.mv (.r 3), none⟩,
   ⟨.mv (.r 4), none⟩] [] [] [(8, 5, none), (9, 6, none)])
 (.drop [12] []))
 (.seq (.seq (.reg [⟨.call .val n_undertowlaw02_alive [], none⟩,
   ⟨.mv (.r 0), none⟩,
   ⟨.mv (.s 4), some (1, true)⟩,
   ⟨.mv (.s 6), some (1, true)⟩,
   ⟨.call .val n_moment_Less [(.r 2), (.r 3)], some (1, true)⟩,
   ⟨.mv (.s 0), some (1, true)⟩,
   ⟨.mv (.s 1), some (1, true)⟩,
   ⟨.bin .lss (.r 5) (.r 6), some (1, true)⟩,
   ⟨.eqb false (.r 4) (.r 7), some (1, true)⟩,
   ⟨.pick (.r 1) (.r 8) (.c (.bool false)), none⟩,
   ⟨.mv (.r 9), none⟩,
   ⟨.call .val n_moment_First [], some (10, true)⟩,
   ⟨.mv (.s 4), some (10, true)⟩,
   ⟨.call .val n_moment_Less [(.r 11), (.r 12)], some (10, true)⟩,
   ⟨.pick (.r 10) (.r 13) (.c (.bool false)), none⟩,
   ⟨.mv (.r 14), none⟩,
   ⟨.mv (.s 4), some (15, true)⟩,
   ⟨.call .val n_moment_Later [], some (15, true)⟩,
   ⟨.call .val n_moment_Less [(.r 16), (.r 17)], some (15, true)⟩,
   ⟨.pick (.r 15) (.r 18) (.c (.bool false)), none⟩,
   ⟨.mv (.r 19), none⟩,
   ⟨.mv (.s 9), some (20, true)⟩,
   ⟨.pick (.r 20) (.r 21) (.c (.bool false)), none⟩,
   ⟨.mv (.r 22), none⟩,
   ⟨.mv (.s 8), some (23, true)⟩,
   ⟨.mv (.s 0), some (23, true)⟩,
   ⟨.bin .eql (.r 24) (.r 25), some (23, true)⟩,
   ⟨.pick (.r 23) (.r 26) (.c (.bool false)), none⟩,
   ⟨.mv (.r 27), none⟩] [] [] [(3, 28, none)])
 (.drop [0, 1, 4, 6, 8, 9] []))
 (.ret))))))))⟩
/-- 5: undertow/undertowlaw02.MomentOrders -/
def h5 : Vm.Hint := ⟨[0, 1, 4, 6], [], [], [[0], [0, 0], [0], [0, 0, 0, 0, 0, 0, 0, 0, 0, 0, 0, 0, 0, 0, 0, 0, 0, 0, 0, 0, 0, 0]], [([2], []), ([], []), ([0, 1, 3], []), ([0, 1, 3], [])]⟩
def ir_undertowlaw02_MomentOrders : Vm.Fn := ⟨[0, 1, 4, 6], 0, 0, [.slot 2],
 .seq (.seq (.reg [⟨.mv (.c (.bool false)), none⟩] [] [] [(2, 0, none)])
 (.drop [2] []))
 (.seq (.seq (.reg [⟨.call .val n_undertowlaw02_alive [], none⟩,
   ⟨.un .not (.r 0), none⟩] [] [] [(3, 1, none)])
 (.cond (.s 3) (.seq (.seq (.reg [⟨.mv (.c (.bool false)), none⟩] [] [] [(2, 0, none)])
  (.drop [0, 1, 3] []))
  (.ret))
  (.skip)))
 (.seq (.seq (.reg [⟨.call .val n_undertowlaw02_alive [], none⟩,
   ⟨.mv (.r 0), none⟩,
   ⟨.mv (.s 0), some (1, true)⟩,
   ⟨.mv (.s 1), some (1, true)⟩,
   ⟨.call .val n_moment_Less [(.r 2), (.r 3)], some (1, true)⟩,
   ⟨.mv (.s 0), some (1, true)⟩,
   ⟨.mv (.s 1), some (1, true)⟩,
   ⟨.call .val n_undertowref02_Less [(.r 5), (.r 6)], some (1, true)⟩,
   ⟨.eqb false (.r 4) (.r 7), some (1, true)⟩,
   ⟨.pick (.r 1) (.r 8) (.c (.bool false)), none⟩,
   ⟨.mv (.r 9), none⟩,
   ⟨.mv (.s 0), some (10, true)⟩,
   ⟨.mv (.s 1), some (10, true)⟩,
   ⟨.call .val n_moment_Same [(.r 11), (.r 12)], some (10, true)⟩,
   ⟨.mv (.s 0), some (10, true)⟩,
   ⟨.call .val n_undertowref02_Rank [(.r 14)], some (10, true)⟩,
   ⟨.mv (.s 1), some (10, true)⟩,
   ⟨.call .val n_undertowref02_Rank [(.r 16)], some (10, true)⟩,
   ⟨.bin .eql (.r 15) (.r 17), some (10, true)⟩,
   ⟨.eqb false (.r 13) (.r 18), some (10, true)⟩,
   ⟨.pick (.r 10) (.r 19) (.c (.bool false)), none⟩,
   ⟨.mv (.r 20), none⟩] [] [] [(2, 21, none)])
 (.drop [0, 1, 3] []))
 (.ret)))⟩
/-- 6: undertow/undertowlaw02.MomentTotal -/
def h6 : Vm.Hint := ⟨[0, 1, 2, 6, 7, 9, 12, 17, 22], [], [], [[0], [0, 0], [0], [0], [0, 0, 0], [0, 0, 0], [0, 0, 0], [0, 0, 0], [0, 0, 0], [0, 0, 0], [0, 0, 0, 0, 0, 0, 0, 0, 0, 0, 0, 0, 0, 0, 0, 0, 0, 0, 0, 0, 0, 0, 0, 0, 0, 0, 0, 0]], [([3], []), ([], []), ([0, 1, 2, 5], []), ([5], []), ([], []), ([6], []), ([6], []), ([7], []), ([7], []), ([8], []), ([0, 1, 2, 4, 8], [])]⟩
def ir_undertowlaw02_MomentTotal : Vm.Fn := ⟨[0, 1, 2, 6, 7, 9, 12, 17, 22], 0, 0, [.slot 3],
 .seq (.seq (.reg [⟨.mv (.c (.bool false)), none⟩] [] [] [(3, 0, none)])
 (.drop [3] []))
 (.seq (.seq (.reg [⟨.call .val n_undertowlaw02_alive [], none⟩,
   ⟨.un .not (.r 0), none⟩] [] [] [(5, 1, none)])
 (.cond (.s 5) (.seq (.seq (.reg [⟨.mv (.c (.bool false)), none⟩] [] [] [(3, 0, none)])
  (.drop [0, 1, 2, 5] []))
  (.ret))
  (.skip)))
 (.seq (.seq (.reg [⟨.mv (.c (.int .i64 0)), none⟩] [] [] [(4, 0, none)])
 (.drop [5] []))
 (.seq (.seq (.reg [⟨.mv (.s 0), none⟩,
   ⟨.mv (.s 1), none⟩,
   ⟨.call .val n_moment_Less [(.r 0), (.r 1)], none⟩] [] [] [(6, 2, none)])
 (.cond (.s 6) (.seq (.reg [⟨.mv (.s 4), none⟩,
    ⟨.bin .add (.r 0) (.c (.int .i64 1)), none⟩,
    ⟨.mv (.r 1), none⟩] [] [] [(4, 2, none)])
  (.drop [6] []))
  (.skip)))
 (.seq (.seq (.seq (.reg [⟨.mv (.s 1), none⟩,
   ⟨.mv (.s 0), none⟩,
   ⟨.call .val n_moment_Less [(.r 0), (.r 1)], none⟩] [] [] [(7, 2, none)])
 (.drop [6] []))
 (.cond (.s 7) (.seq (.reg [⟨.mv (.s 4), none⟩,
    ⟨.bin .add (.r 0) (.c (.int .i64 1)), none⟩,
    ⟨.mv (.r 1), none⟩] [] [] [(4, 2, none)])
  (.drop [7] []))
  (.skip)))
 (.seq (.seq (.seq (.reg [⟨.mv (.s 0), none⟩,
   ⟨.mv (.s 1), none⟩,
   ⟨.call .val n_moment_Same [(.r 0), (.r 1)], none⟩] [] [] [(8, 2, none)])
 (.drop [7] []))
 (.cond (.s 8) (.seq (.reg [⟨.mv (.s 4), none⟩,
    ⟨.bin .add (.r 0) (.c (.int .i64 1)), none⟩,
    ⟨.mv (.r 1), none⟩] [] [] [(4, 2, none)])
  (.drop [8] []))
  (.skip)))
 (.seq (.seq (.reg [⟨.call .val n_undertowlaw02_alive [], none⟩,
   ⟨.mv (.r 0), none⟩,
   ⟨.mv (.s 4), some (1, true)⟩,
   ⟨.bin .eql (.r 2) (.c (.int .i64 1)), some (1, true)⟩,
   ⟨.pick (.r 1) (.r 3) (.c (.bool false)), none⟩,
   ⟨.mv (.r 4), none⟩,
   ⟨.mv (.s 0), some (5, true)⟩,
   ⟨.mv (.s 0), some (5, true)⟩,
   ⟨.call .val n_moment_Same [(.r 6), (.r 7)], some (5, true)⟩,
   ⟨.pick (.r 5) (.r 8) (.c (.bool false)), none⟩,
   ⟨.mv (.r 9), none⟩,
   ⟨.mv (.s 0), some (10, true)⟩,
   ⟨.mv (.s 1), some (10, true)⟩,
   ⟨.call .val n_moment_Less [(.r 11), (.r 12)], some (10, true)⟩,
   ⟨.un .not (.r 13), some (10, true)⟩,
   ⟨.mv (.r 14), some (10, true)⟩,
   ⟨.mv (.s 1), some (15, false)⟩,
   ⟨.mv (.s 2), some (15, false)⟩,
   ⟨.call .val n_moment_Less [(.r 16), (.r 17)], some (15, false)⟩,
   ⟨.un .not (.r 18), some (15, false)⟩,
   ⟨.pick (.r 15) (.c (.bool true)) (.r 19), some (10, true)⟩,
   ⟨.mv (.r 20), some (10, true)⟩,
   ⟨.mv (.s 0), some (21, false)⟩,
   ⟨.mv (.s 2), some (21, false)⟩,
   ⟨.call .val n_moment_Less [(.r 22), (.r 23)], some (21, false)⟩,
   ⟨.pick (.r 21) (.c (.bool true)) (.r 24), some (10, true)⟩,
   ⟨.pick (.r 10) (.r 25) (.c (.bool false)), none⟩,
   ⟨.mv (.r 26), none⟩] [] [] [(3, 27, none)])
 (.drop [0, 1, 2, 4, 8] []))
 (.ret)))))))⟩
/-- 7: undertow/undertowlaw02.MomentSorts -/
def h7 : Vm.Hint := ⟨[0, 2, 3, 4, 5, 7, 10, 18, 26], [], [], [[0], [0, 0], [0], [0, 0, 0], [0, 0], [0, 0, 0], [0, 0], [0], [0, 0, 0, 0], [0, 0, 0], [0, 0, 0, 0, 0, 0], [0, 0, 0, 0, 0], [0, 0, 0, 0, 0, 0, 0, 0, 0, 0, 0, 0, 0, 0, 0, 0]], [([1], []), ([], []), ([0, 5], []), ([5], []), ([0, 6], []), ([6], []), ([], []), ([], []), ([], []), ([8], []), ([7], []), ([8], []), ([0, 2, 3, 4, 7], [])]⟩
def ir_undertowlaw02_MomentSortsl0 : C :=
 .seq (.seq (.reg [⟨.mv (.s 4), none⟩,
   ⟨.mv (.s 0), none⟩,
   ⟨.len 1 (.r 1), none⟩,
   ⟨.bin .lss (.r 0) (.r 2), none⟩] [] [] [(7, 3, none)])
 (.cond (.s 7) (.skip)
  (.exit 0)))
 (.seq (.block 1 (.seq (.seq (.reg [⟨.mv (.s 3), none⟩,
    ⟨.mv (.s 0), none⟩,
    ⟨.mv (.s 4), none⟩,
    ⟨.iaS 1 (.r 1) (.r 2), none⟩,
    ⟨.load 0 false 1 (.r 3), none⟩,
    ⟨.call .val n_undertowref02_Less [(.r 0), (.r 4)], none⟩] [] [] [(8, 5, none)])
  (.drop [7] []))
  (.cond (.s 8) (.seq (.reg [⟨.mv (.s 0), none⟩,
     ⟨.mv (.s 4), none⟩,
     ⟨.iaS 1 (.r 0) (.r 1), none⟩,
     ⟨.load 0 false 1 (.r 2), none⟩,
     ⟨.mv (.r 3), none⟩] [] [] [(3, 4, none)])
   (.drop [8] []))
   (.skip))))
 (.seq (.reg [⟨.mv (.s 4), none⟩,
   ⟨.bin .add (.r 0) (.c (.int .i64 1)), none⟩,
   ⟨.mv (.r 1), none⟩] [] [] [(4, 2, none)])
 (.drop [8] [])))
def ir_undertowlaw02_MomentSorts : Vm.Fn := ⟨[0, 2, 3, 4, 5, 7, 10, 18, 26], 0, 0, [.slot 1],
 .seq (.seq (.reg [⟨.mv (.c (.bool false)), none⟩] [] [] [(1, 0, none)])
 (.drop [1] []))
 (.seq (.seq (.reg [⟨.call .val n_undertowlaw02_alive [], none⟩,
   ⟨.un .not (.r 0), none⟩] [] [] [(5, 1, none)])
 (.cond (.s 5) (.seq (.seq (.reg [⟨.mv (.c (.bool false)), none⟩] [] [] [(1, 0, none)])
  (.drop [0, 5] []))
  (.ret))
  (.skip)))
 (.seq (.seq (.seq (.reg [⟨.mv (.s 0), none⟩,
   ⟨.len 1 (.r 0), none⟩,
   ⟨.bin .gtr (.r 1) (.c (.int .i64 200)), none⟩] [] [] [(6, 2, none)])
 (.drop [5] []))
 (.cond (.s 6) (.seq (.seq (.reg [⟨.call .val n_undertowlaw02_alive [], none⟩,
    ⟨.mv (.r 0), none⟩] [] [] [(1, 1, none)])
  (.drop [0, 6] []))
  (.ret))
  (.skip)))
 (.seq (.seq (.reg [⟨.mv (.s 0), none⟩,
   ⟨.call .val n_undertowref02_Sort [(.r 0)], none⟩,
   ⟨.mv (.r 1), none⟩] [] [] [(2, 2, none)])
 (.drop [6] []))
 (.seq (.reg [⟨.call .val n_moment_First [], none⟩,
   ⟨.mv (.r 0), none⟩] [] [] [(3, 1, none)])
 (.seq (.seq (.reg [⟨.mv (.c (.int .i64 0)), none⟩] [] [] [(4, 0, none)])
 (.block 0 (.loop ir_undertowlaw02_MomentSortsl0)))
 (.seq (.seq (.reg [⟨.call .val n_undertowlaw02_alive [], none⟩,
   ⟨.mv (.r 0), none⟩,
   ⟨.mv (.s 0), some (1, true)⟩,
   ⟨.call .val n_moment_Sort [(.r 2)], some (1, true)⟩,
   ⟨.mv (.s 2), some (1, true)⟩,
   ⟨.call .val n_undertowref02_SameInts [(.r 3), (.r 4)], some (1, true)⟩,
   ⟨.pick (.r 1) (.r 5) (.c (.bool false)), none⟩,
   ⟨.mv (.r 6), none⟩,
   ⟨.mv (.s 0), some (7, true)⟩,
   ⟨.call .val n_moment_Last [(.r 8)], some (7, true)⟩,
   ⟨.call .val n_undertowref02_Rank [(.r 9)], some (7, true)⟩,
   ⟨.mv (.s 3), some (7, true)⟩,
   ⟨.call .val n_undertowref02_Rank [(.r 11)], some (7, true)⟩,
   ⟨.bin .eql (.r 10) (.r 12), some (7, true)⟩,
   ⟨.pick (.r 7) (.r 13) (.c (.bool false)), none⟩,
   ⟨.mv (.r 14), none⟩] [] [] [(1, 15, none)])
 (.drop [0, 2, 3, 4, 7] []))
 (.ret)))))))⟩
/-- 8: undertow/undertowlaw02.alive -/
def h8 : Vm.Hint := ⟨[0, 1, 2, 3, 4], [], [], [[0], [0, 0, 0, 0, 0, 0], [0, 0, 0, 0, 0, 0, 0], [0, 0, 0, 0, 0, 0, 0, 0, 0, 0, 0, 0, 0, 0, 0, 0, 0, 0, 0, 0, 0, 0, 0, 0, 0, 0, 0]], [([0], []), ([], []), ([], []), ([1, 2, 3, 4], [])]⟩
def ir_undertowlaw02_alive : Vm.Fn := ⟨[0, 1, 2, 3, 4], 0, 0, [.slot 0],
 .seq (.seq (.reg [⟨.mv (.c (.bool false)), none⟩] [] [] [(0, 0, none)])
 (.drop [0] []))
 (.seq (.reg [⟨.call .val n_moment_Of [(.c (.int .i64 3))], none⟩,
   ⟨.mv (.r 0), none⟩,
   ⟨.ext (.r 1) 0, none⟩,
   ⟨.ext (.r 1) 1, none⟩,
   ⟨.mv (.r 2), none⟩,
   ⟨.mv (.r 3), none⟩] [] [] [(1, 4, none), (2, 5, none)])
 (.seq (.reg [⟨.mv (.s 1), none⟩,
   ⟨.call .val n_moment_Step [(.r 0)], none⟩,
   ⟨.mv (.r 1), none⟩,
   ⟨.ext (.r 2) 0, none⟩,
   ⟨.ext (.r 2) 1, none⟩,
   ⟨.mv (.r 3), none⟩,
   ⟨.mv (.r 4), none⟩] [] [] [(3, 5, none), (4, 6, none)])
 (.seq (.seq (.reg [⟨.mv (.s 2), none⟩,
   ⟨.mv (.r 0), none⟩,
   ⟨.mv (.s 4), some (1, true)⟩,
   ⟨.pick (.r 1) (.r 2) (.c (.bool false)), none⟩,
   ⟨.mv (.r 3), none⟩,
   ⟨.mv (.s 1), some (4, true)⟩,
   ⟨.bin .eql (.r 5) (.c (.flt 4613937818241073152)), some (4, true)⟩,
   ⟨.pick (.r 4) (.r 6) (.c (.bool false)), none⟩,
   ⟨.mv (.r 7), none⟩,
   ⟨.mv (.s 3), some (8, true)⟩,
   ⟨.bin .eql (.r 9) (.c (.int .i64 3)), some (8, true)⟩,
   ⟨.pick (.r 8) (.r 10) (.c (.bool false)), none⟩,
   ⟨.mv (.r 11), none⟩,
   ⟨.call .val n_moment_First [], some (12, true)⟩,
   ⟨.mv (.s 1), some (12, true)⟩,
   ⟨.call .val n_moment_Less [(.r 13), (.r 14)], some (12, true)⟩,
   ⟨.pick (.r 12) (.r 15) (.c (.bool false)), none⟩,
   ⟨.mv (.r 16), none⟩,
   ⟨.mv (.s 1), some (17, true)⟩,
   ⟨.call .val n_moment_Later [], some (17, true)⟩,
   ⟨.call .val n_moment_Less [(.r 18), (.r 19)], some (17, true)⟩,
   ⟨.pick (.r 17) (.r 20) (.c (.bool false)), none⟩,
   ⟨.mv (.r 21), none⟩,
   ⟨.call .val n_moment_Never [], some (22, true)⟩,
   ⟨.call .val n_undertowref02_None [(.r 23)], some (22, true)⟩,
   ⟨.pick (.r 22) (.r 24) (.c (.bool false)), none⟩,
   ⟨.mv (.r 25), none⟩] [] [] [(0, 26, none)])
 (.drop [1, 2, 3, 4] []))
 (.ret))))⟩
/-- 9: undertow/moment.Of -/
def h9 : Vm.Hint := ⟨[0, 2, 3, 9], [], [], [[0, 0], [0, 0, 0, 0, 0, 0], [0, 0, 0], [0, 0, 0, 0]], []⟩
def ir_moment_Of : Vm.Fn := ⟨[0, 2, 3, 9], 0, 0, [.slot 1, .slot 2],
 .seq (.reg [⟨.mv (.c (.flt 0)), none⟩,
   ⟨.mv (.c (.bool false)), none⟩] [] [] [(1, 0, none), (2, 1, none)])
 (.seq (.seq (.reg [⟨.mv (.s 0), none⟩,
   ⟨.bin .lss (.r 0) (.c (.int .i64 0)), none⟩,
   ⟨.mv (.r 1), none⟩,
   ⟨.mv (.s 0), some (2, false)⟩,
   ⟨.bin .gtr (.r 3) (.c (.int .i64 9007199254740992)), some (2, false)⟩,
   ⟨.pick (.r 2) (.c (.bool true)) (.r 4), none⟩] [] [] [(3, 5, none)])
 (.cond (.s 3) (.seq (.reg [⟨.call .val n_moment_Never [], none⟩,
    ⟨.mv (.r 0), none⟩,
    ⟨.mv (.c (.bool false)), none⟩] [] [] [(1, 1, none), (2, 2, none)])
  (.ret))
  (.skip)))
 (.seq (.reg [⟨.mv (.s 0), none⟩,
   ⟨.i2f (.r 0), none⟩,
   ⟨.mv (.r 1), none⟩,
   ⟨.mv (.c (.bool true)), none⟩] [] [] [(1, 2, none), (2, 3, none)])
 (.ret)))⟩
/-- 10: undertow/moment.Step -/
def h10 : Vm.Hint := ⟨[0, 2, 3, 4], [], [], [[0, 0], [0, 0, 0], [0, 0, 0], [0, 0, 0], [0, 0, 0], [0, 0, 0, 0, 0], [0, 0], [0, 0, 0, 0]], []⟩
def ir_moment_Step : Vm.Fn := ⟨[0, 2, 3, 4], 0, 0, [.slot 1, .slot 2],
 .seq (.reg [⟨.mv (.c (.int .i64 0)), none⟩,
   ⟨.mv (.c (.bool false)), none⟩] [] [] [(1, 0, none), (2, 1, none)])
 (.seq (.block 0 (.seq (.seq (.reg [⟨.mv (.s 0), none⟩,
    ⟨.call .val n_math_IsNaN [(.r 0)], none⟩,
    ⟨.mv (.r 1), none⟩] [] [] [(3, 2, none)])
  (.cond (.s 3) (.skip)
   (.seq (.reg [⟨.mv (.s 0), none⟩,
     ⟨.call .val n_math_IsInf [(.r 0), (.c (.int .i64 0))], none⟩,
     ⟨.mv (.r 1), none⟩] [] [] [(3, 2, none)])
   (.cond (.s 3) (.skip)
    (.seq (.reg [⟨.mv (.s 0), none⟩,
      ⟨.call .val n_math_Signbit [(.r 0)], none⟩,
      ⟨.mv (.r 1), none⟩] [] [] [(3, 2, none)])
    (.cond (.s 3) (.skip)
     (.seq (.reg [⟨.mv (.s 0), none⟩,
       ⟨.bin .gtr (.r 0) (.c (.flt 4845873199050653696)), none⟩,
       ⟨.mv (.r 1), none⟩] [] [] [(3, 2, none)])
     (.cond (.s 3) (.skip)
      (.reg [⟨.mv (.s 0), none⟩,
        ⟨.mv (.s 0), none⟩,
        ⟨.call .val n_math_Floor [(.r 1)], none⟩,
        ⟨.bin .neq (.r 0) (.r 2), none⟩,
        ⟨.mv (.r 3), none⟩] [] [] [(3, 4, none)])))))))))
  (.cond (.s 3) (.seq (.reg [⟨.mv (.c (.int .i64 0)), none⟩,
     ⟨.mv (.c (.bool false)), none⟩] [] [] [(1, 0, none), (2, 1, none)])
   (.ret))
   (.skip))))
 (.seq (.reg [⟨.mv (.s 0), none⟩,
   ⟨.f2i .i64 (.r 0), none⟩,
   ⟨.mv (.r 1), none⟩,
   ⟨.mv (.c (.bool true)), none⟩] [] [] [(1, 2, none), (2, 3, none)])
 (.ret)))⟩
/-- 11: undertow/undertowref02.Step -/
def h11 : Vm.Hint := ⟨[0, 2, 3, 4, 5, 6, 7, 11, 26, 31, 41, 47], [], [], [[0, 0], [0, 0, 0], [0, 0], [0, 0], [0, 0, 0, 0, 0], [0, 0, 0, 0, 0, 0, 0, 0, 0, 0, 0], [0, 0], [0, 0, 0, 0], [0, 0], [0, 0, 0, 0], [0, 0, 0, 0, 0, 0, 0], [0, 0], [0, 0, 0, 0, 0, 0], [0, 0], [0, 0], [0, 0]], []⟩
def ir_undertowref02_Step : Vm.Fn := ⟨[0, 2, 3, 4, 5, 6, 7, 11, 26, 31, 41, 47], 0, 0, [.slot 1, .slot 2],
 .seq (.reg [⟨.mv (.c (.int .i64 0)), none⟩,
   ⟨.mv (.c (.bool false)), none⟩] [] [] [(1, 0, none), (2, 1, none)])
 (.seq (.reg [⟨.mv (.s 0), none⟩,
   ⟨.prim .bits (.r 0), none⟩,
   ⟨.mv (.r 1), none⟩] [] [] [(3, 2, none)])
 (.seq (.seq (.reg [⟨.mv (.s 3), none⟩,
   ⟨.bin .eql (.r 0) (.c (.int .u64 0)), none⟩] [] [] [(7, 1, none)])
 (.cond (.s 7) (.seq (.reg [⟨.mv (.c (.int .i64 0)), none⟩,
    ⟨.mv (.c (.bool true)), none⟩] [] [] [(1, 0, none), (2, 1, none)])
  (.ret))
  (.skip)))
 (.seq (.reg [⟨.mv (.s 3), none⟩,
   ⟨.bin .shr (.r 0) (.c (.int .u64 52)), none⟩,
   ⟨.i2i .i64 (.r 1), none⟩,
   ⟨.bin .sub (.r 2) (.c (.int .i64 1023)), none⟩,
   ⟨.mv (.r 3), none⟩] [] [] [(4, 4, none)])
 (.seq (.seq (.reg [⟨.mv (.s 3), none⟩,
   ⟨.bin .shr (.r 0) (.c (.int .u64 63)), none⟩,
   ⟨.bin .eql (.r 1) (.c (.int .u64 1)), none⟩,
   ⟨.mv (.r 2), none⟩,
   ⟨.mv (.s 4), some (3, false)⟩,
   ⟨.bin .lss (.r 4) (.c (.int .i64 0)), some (3, false)⟩,
   ⟨.pick (.r 3) (.c (.bool true)) (.r 5), none⟩,
   ⟨.mv (.r 6), none⟩,
   ⟨.mv (.s 4), some (7, false)⟩,
   ⟨.bin .gtr (.r 8) (.c (.int .i64 53)), some (7, false)⟩,
   ⟨.pick (.r 7) (.c (.bool true)) (.r 9), none⟩] [] [] [(8, 10, none)])
 (.cond (.s 8) (.seq (.reg [⟨.mv (.c (.int .i64 0)), none⟩,
    ⟨.mv (.c (.bool false)), none⟩] [] [] [(1, 0, none), (2, 1, none)])
  (.ret))
  (.skip)))
 (.seq (.reg [⟨.mv (.s 3), none⟩,
   ⟨.bin .and (.r 0) (.c (.int .u64 4503599627370495)), none⟩,
   ⟨.bin .add (.r 1) (.c (.int .u64 4503599627370496)), none⟩,
   ⟨.mv (.r 2), none⟩] [] [] [(5, 3, none)])
 (.seq (.seq (.reg [⟨.mv (.s 4), none⟩,
   ⟨.bin .leq (.r 0) (.c (.int .i64 52)), none⟩] [] [] [(9, 1, none)])
 (.cond (.s 9) (.seq (.reg [⟨.mv (.s 4), none⟩,
    ⟨.bin .sub (.c (.int .i64 52)) (.r 0), none⟩,
    ⟨.i2i .u64 (.r 1), none⟩,
    ⟨.mv (.r 2), none⟩] [] [] [(6, 3, none)])
  (.seq (.seq (.reg [⟨.mv (.s 5), none⟩,
    ⟨.mv (.s 6), none⟩,
    ⟨.bin .shr (.r 0) (.r 1), none⟩,
    ⟨.mv (.s 6), none⟩,
    ⟨.bin .shl (.r 2) (.r 3), none⟩,
    ⟨.mv (.s 5), none⟩,
    ⟨.bin .neq (.r 4) (.r 5), none⟩] [] [] [(10, 6, none)])
  (.cond (.s 10) (.seq (.reg [⟨.mv (.c (.int .i64 0)), none⟩,
     ⟨.mv (.c (.bool false)), none⟩] [] [] [(1, 0, none), (2, 1, none)])
   (.ret))
   (.skip)))
  (.seq (.reg [⟨.mv (.s 5), none⟩,
    ⟨.mv (.s 6), none⟩,
    ⟨.bin .shr (.r 0) (.r 1), none⟩,
    ⟨.i2i .i64 (.r 2), none⟩,
    ⟨.mv (.r 3), none⟩,
    ⟨.mv (.c (.bool true)), none⟩] [] [] [(1, 4, none), (2, 5, none)])
  (.ret))))
  (.skip)))
 (.seq (.seq (.reg [⟨.mv (.s 5), none⟩,
   ⟨.bin .neq (.r 0) (.c (.int .u64 4503599627370496)), none⟩] [] [] [(11, 1, none)])
 (.cond (.s 11) (.seq (.reg [⟨.mv (.c (.int .i64 0)), none⟩,
    ⟨.mv (.c (.bool false)), none⟩] [] [] [(1, 0, none), (2, 1, none)])
  (.ret))
  (.skip)))
 (.seq (.reg [⟨.mv (.c (.int .i64 9007199254740992)), none⟩,
   ⟨.mv (.c (.bool true)), none⟩] [] [] [(1, 0, none), (2, 1, none)])
 (.ret)))))))))⟩
/-- 12: undertow/moment.First -/
def h12 : Vm.Hint := ⟨[0], [], [], [[0], [0, 0]], []⟩
def ir_moment_First : Vm.Fn := ⟨[0], 0, 0, [.slot 0],
 .seq (.reg [⟨.mv (.c (.flt 0)), none⟩] [] [] [(0, 0, none)])
 (.seq (.reg [⟨.call .val n_math_Inf [(.c (.int .i64 (-1)))], none⟩,
   ⟨.mv (.r 0), none⟩] [] [] [(0, 1, none)])
 (.ret))⟩
/-- 13: undertow/moment.Later -/
def h13 : Vm.Hint := ⟨[0], [], [], [[0], [0, 0]], []⟩
def ir_moment_Later : Vm.Fn := ⟨[0], 0, 0, [.slot 0],
 .seq (.reg [⟨.mv (.c (.flt 0)), none⟩] [] [] [(0, 0, none)])
 (.seq (.reg [⟨.call .val n_math_Inf [(.c (.int .i64 1))], none⟩,
   ⟨.mv (.r 0), none⟩] [] [] [(0, 1, none)])
 (.ret))⟩
/-- 14: undertow/undertowref02.Rank -/
def h14 : Vm.Hint := ⟨[0, 2, 3, 7, 10], [], [], [[0], [0, 0, 0], [0, 0], [0], [0, 0, 0], [0, 0, 0, 0], [0, 0, 0]], []⟩
def ir_undertowref02_Rank : Vm.Fn := ⟨[0, 2, 3, 7, 10], 0, 0, [.slot 1],
 .seq (.reg [⟨.mv (.c (.int .u64 0)), none⟩] [] [] [(1, 0, none)])
 (.seq (.reg [⟨.mv (.s 0), none⟩,
   ⟨.prim .bits (.r 0), none⟩,
   ⟨.mv (.r 1), none⟩] [] [] [(2, 2, none)])
 (.seq (.seq (.reg [⟨.mv (.s 0), none⟩,
   ⟨.call .val n_undertowref02_None [(.r 0)], none⟩] [] [] [(3, 1, none)])
 (.cond (.s 3) (.seq (.reg [⟨.mv (.c (.int .u64 18446744073709551615)), none⟩] [] [] [(1, 0, none)])
  (.ret))
  (.skip)))
 (.seq (.seq (.reg [⟨.mv (.s 2), none⟩,
   ⟨.bin .shr (.r 0) (.c (.int .u64 63)), none⟩,
   ⟨.bin .eql (.r 1) (.c (.int .u64 1)), none⟩] [] [] [(4, 2, none)])
 (.cond (.s 4) (.seq (.reg [⟨.mv (.s 2), none⟩,
    ⟨.bin .sub (.r 0) (.c (.int .u64 9223372036854775808)), none⟩,
    ⟨.bin .sub (.c (.int .u64 9223372036854775807)) (.r 1), none⟩,
    ⟨.mv (.r 2), none⟩] [] [] [(1, 3, none)])
  (.ret))
  (.skip)))
 (.seq (.reg [⟨.mv (.s 2), none⟩,
   ⟨.bin .add (.r 0) (.c (.int .u64 9223372036854775808)), none⟩,
   ⟨.mv (.r 1), none⟩] [] [] [(1, 2, none)])
 (.ret)))))⟩
/-- 15: undertow/undertowref02.None -/
def h15 : Vm.Hint := ⟨[0, 2, 3], [], [], [[0], [0, 0, 0, 0], [0, 0, 0]], []⟩
def ir_undertowref02_None : Vm.Fn := ⟨[0, 2, 3], 0, 0, [.slot 1],
 .seq (.reg [⟨.mv (.c (.bool false)), none⟩] [] [] [(1, 0, none)])
 (.seq (.reg [⟨.mv (.s 0), none⟩,
   ⟨.prim .bits (.r 0), none⟩,
   ⟨.bin .andNot (.r 1) (.c (.int .u64 9223372036854775808)), none⟩,
   ⟨.mv (.r 2), none⟩] [] [] [(2, 3, none)])
 (.seq (.reg [⟨.mv (.s 2), none⟩,
   ⟨.bin .gtr (.r 0) (.c (.int .u64 9218868437227405312)), none⟩,
   ⟨.mv (.r 1), none⟩] [] [] [(1, 2, none)])
 (.ret)))⟩
/-- 16: undertow/moment.Never -/
def h16 : Vm.Hint := ⟨[0], [], [], [[0], [0, 0]], []⟩
def ir_moment_Never : Vm.Fn := ⟨[0], 0, 0, [.slot 0],
 .seq (.reg [⟨.mv (.c (.flt 0)), none⟩] [] [] [(0, 0, none)])
 (.seq (.reg [⟨.call .val n_math_NaN [], none⟩,
   ⟨.mv (.r 0), none⟩] [] [] [(0, 1, none)])
 (.ret))⟩
/-- 17: undertow/moment.Less -/
def h17 : Vm.Hint := ⟨[0, 1, 4, 5, 8, 11], [], [], [[0], [0, 0, 0], [0], [0, 0, 0], [0], [0, 0, 0, 0, 0, 0, 0], [0, 0, 0, 0, 0, 0, 0, 0], [0, 0, 0, 0]], []⟩
def ir_moment_Less : Vm.Fn := ⟨[0, 1, 4, 5, 8, 11], 0, 0, [.slot 2],
 .seq (.reg [⟨.mv (.c (.bool false)), none⟩] [] [] [(2, 0, none)])
 (.seq (.block 0 (.seq (.reg [⟨.mv (.s 0), none⟩,
    ⟨.call .val n_math_IsNaN [(.r 0)], none⟩,
    ⟨.mv (.r 1), none⟩] [] [] [(3, 2, none)])
  (.cond (.s 3) (.seq (.reg [⟨.mv (.c (.bool false)), none⟩] [] [] [(2, 0, none)])
   (.ret))
   (.seq (.reg [⟨.mv (.s 1), none⟩,
     ⟨.call .val n_math_IsNaN [(.r 0)], none⟩,
     ⟨.mv (.r 1), none⟩] [] [] [(4, 2, none)])
   (.cond (.s 4) (.seq (.reg [⟨.mv (.c (.bool true)), none⟩] [] [] [(2, 0, none)])
    (.ret))
    (.seq (.reg [⟨.mv (.s 0), none⟩,
      ⟨.bin .eql (.r 0) (.c (.flt 0)), none⟩,
      ⟨.mv (.r 1), none⟩,
      ⟨.mv (.s 1), some (2, true)⟩,
      ⟨.bin .eql (.r 3) (.c (.flt 0)), some (2, true)⟩,
      ⟨.pick (.r 2) (.r 4) (.c (.bool false)), none⟩,
      ⟨.mv (.r 5), none⟩] [] [] [(5, 6, none)])
    (.cond (.s 5) (.seq (.reg [⟨.mv (.s 0), none⟩,
       ⟨.call .val n_math_Signbit [(.r 0)], none⟩,
       ⟨.mv (.r 1), none⟩,
       ⟨.mv (.s 1), some (2, true)⟩,
       ⟨.call .val n_math_Signbit [(.r 3)], some (2, true)⟩,
       ⟨.un .not (.r 4), some (2, true)⟩,
       ⟨.pick (.r 2) (.r 5) (.c (.bool false)), none⟩,
       ⟨.mv (.r 6), none⟩] [] [] [(2, 7, none)])
     (.ret))
     (.skip))))))))
 (.seq (.reg [⟨.mv (.s 0), none⟩,
   ⟨.mv (.s 1), none⟩,
   ⟨.bin .lss (.r 0) (.r 1), none⟩,
   ⟨.mv (.r 2), none⟩] [] [] [(2, 3, none)])
 (.ret)))⟩
/-- 18: undertow/undertowref02.Less -/
def h18 : Vm.Hint := ⟨[0, 1, 4], [], [], [[0], [0, 0, 0, 0, 0, 0]], []⟩
def ir_undertowref02_Less : Vm.Fn := ⟨[0, 1, 4], 0, 0, [.slot 2],
 .seq (.reg [⟨.mv (.c (.bool false)), none⟩] [] [] [(2, 0, none)])
 (.seq (.reg [⟨.mv (.s 0), none⟩,
   ⟨.call .val n_undertowref02_Rank [(.r 0)], none⟩,
   ⟨.mv (.s 1), none⟩,
   ⟨.call .val n_undertowref02_Rank [(.r 2)], none⟩,
   ⟨.bin .lss (.r 1) (.r 3), none⟩,
   ⟨.mv (.r 4), none⟩] [] [] [(2, 5, none)])
 (.ret))⟩
/-- 19: undertow/moment.Same -/
def h19 : Vm.Hint := ⟨[0, 1, 4], [], [], [[0], [0, 0, 0, 0, 0, 0, 0, 0, 0, 0, 0]], []⟩
def ir_moment_Same : Vm.Fn := ⟨[0, 1, 4], 0, 0, [.slot 2],
 .seq (.reg [⟨.mv (.c (.bool false)), none⟩] [] [] [(2, 0, none)])
 (.seq (.reg [⟨.mv (.s 0), none⟩,
   ⟨.mv (.s 1), none⟩,
   ⟨.call .val n_moment_Less [(.r 0), (.r 1)], none⟩,
   ⟨.un .not (.r 2), none⟩,
   ⟨.mv (.r 3), none⟩,
   ⟨.mv (.s 1), some (4, true)⟩,
   ⟨.mv (.s 0), some (4, true)⟩,
   ⟨.call .val n_moment_Less [(.r 5), (.r 6)], some (4, true)⟩,
   ⟨.un .not (.r 7), some (4, true)⟩,
   ⟨.pick (.r 4) (.r 8) (.c (.bool false)), none⟩,
   ⟨.mv (.r 9), none⟩] [] [] [(2, 10, none)])
 (.ret))⟩
/-- 20: undertow/undertowref02.Sort -/
def h20 : Vm.Hint := ⟨[0, 2, 3, 4, 5, 6, 10, 31], [], [6], [[0], [0], [0], [0, 0, 0, 0], [0, 0, 0], [0, 0, 0], [0, 0, 0, 0, 0, 0, 0, 0, 0, 0, 0, 0, 0, 0, 0, 0, 0], [0, 0, 0], [1], [0, 0, 0, 0, 2, 0], [0, 0, 1, 2, 0], [0, 0, 0, 0, 2, 0], [0, 0], [0, 0]], [([1], []), ([], []), ([], []), ([], []), ([], []), ([6], []), ([], []), ([7], []), ([7], []), ([], []), ([], []), ([2, 4], []), ([5], [(false, 0)]), ([0, 2, 3, 6], [])]⟩
def ir_undertowref02_Sortl0 : C :=
 .seq (.seq (.reg [⟨.mv (.s 4), none⟩,
   ⟨.bin .gtr (.r 0) (.c (.int .i64 0)), none⟩,
   ⟨.mv (.r 1), none⟩,
   ⟨.mv (.s 0), some (2, true)⟩,
   ⟨.mv (.s 3), some (2, true)⟩,
   ⟨.iaS 1 (.r 3) (.r 4), some (2, true)⟩,
   ⟨.load 0 false 1 (.r 5), some (2, true)⟩,
   ⟨.mv (.s 0), some (2, true)⟩,
   ⟨.mv (.s 2), some (2, true)⟩,
   ⟨.mv (.s 4), some (2, true)⟩,
   ⟨.bin .sub (.r 9) (.c (.int .i64 1)), some (2, true)⟩,
   ⟨.iaS 1 (.r 8) (.r 10), some (2, true)⟩,
   ⟨.load 0 false 1 (.r 11), some (2, true)⟩,
   ⟨.iaS 1 (.r 7) (.r 12), some (2, true)⟩,
   ⟨.load 0 false 1 (.r 13), some (2, true)⟩,
   ⟨.call .val n_undertowref02_Less [(.r 6), (.r 14)], some (2, true)⟩,
   ⟨.pick (.r 2) (.r 15) (.c (.bool false)), none⟩] [] [(5, 11), (5, 12), (5, 13), (5, 14), (6, 11), (6, 12), (6, 13), (6, 14)] [(7, 16, none)])
 (.cond (.s 7) (.skip)
  (.exit 2)))
 (.block 3 (.seq (.reg [⟨.mv (.s 4), none⟩,
    ⟨.bin .sub (.r 0) (.c (.int .i64 1)), none⟩,
    ⟨.mv (.r 1), none⟩] [] [] [(4, 2, none)])
  (.drop [7] [])))
def ir_undertowref02_Sortl1 : C :=
 .seq (.seq (.reg [⟨.mv (.s 3), none⟩,
   ⟨.mv (.s 0), none⟩,
   ⟨.len 1 (.r 1), none⟩,
   ⟨.bin .lss (.r 0) (.r 2), none⟩] [] [] [(6, 3, none)])
 (.cond (.s 6) (.skip)
  (.exit 0)))
 (.seq (.block 1 (.seq (.seq (.reg [⟨.mv (.s 2), none⟩,
    ⟨.len 1 (.r 0), none⟩,
    ⟨.mv (.r 1), none⟩] [] [] [(4, 2, none)])
  (.drop [6] []))
  (.seq (.block 2 (.loop ir_undertowref02_Sortl0))
  (.seq (.seq (.reg [⟨.onil 0, none⟩] [(false, 0)] [] [(5, 0, some 0)])
  (.drop [7] []))
  (.seq (.reg [⟨.mv (.s 5), none⟩,
    ⟨.mv (.s 2), none⟩,
    ⟨.mv (.s 4), none⟩,
    ⟨.slc 1 (.r 1) none (some (.r 2)) none, none⟩,
    ⟨.app 2 1 8 (.r 0) (.r 3), none⟩,
    ⟨.mv (.r 4), none⟩] [] [] [(5, 5, some 0)])
  (.seq (.reg [⟨.mv (.s 5), none⟩,
    ⟨.mv (.s 3), none⟩,
    ⟨.lit 1 1 [[.int .i64 0]] [(0, (.r 1))], none⟩,
    ⟨.app 2 1 8 (.r 0) (.r 2), none⟩,
    ⟨.mv (.r 3), none⟩] [] [] [(5, 4, some 0)])
  (.seq (.seq (.reg [⟨.mv (.s 5), none⟩,
    ⟨.mv (.s 2), none⟩,
    ⟨.mv (.s 4), none⟩,
    ⟨.slc 1 (.r 1) (some (.r 2)) none none, none⟩,
    ⟨.app 2 1 8 (.r 0) (.r 3), none⟩,
    ⟨.mv (.r 4), none⟩] [] [] [(5, 5, some 0)])
  (.drop [2, 4] []))
  (.seq (.reg [⟨.mv (.s 5), none⟩,
    ⟨.mv (.r 0), none⟩] [] [] [(2, 1, none)])
  (.drop [5] [(false, 0)])))))))))
 (.reg [⟨.mv (.s 3), none⟩,
   ⟨.bin .add (.r 0) (.c (.int .i64 1)), none⟩,
   ⟨.mv (.r 1), none⟩] [] [] [(3, 2, none)]))
def ir_undertowref02_Sort : Vm.Fn := ⟨[0, 2, 3, 4, 5, 6, 10, 31], 0, 1, [.slot 1],
 .seq (.seq (.reg [⟨.mv (.c (.nils)), none⟩] [] [] [(1, 0, none)])
 (.drop [1] []))
 (.seq (.reg [⟨.mv (.c (.nils)), none⟩] [] [] [(2, 0, none)])
 (.seq (.seq (.reg [⟨.mv (.c (.int .i64 0)), none⟩] [] [] [(3, 0, none)])
 (.block 0 (.loop ir_undertowref02_Sortl1)))
 (.seq (.seq (.reg [⟨.mv (.s 2), none⟩,
   ⟨.mv (.r 0), none⟩] [] [] [(1, 1, none)])
 (.drop [0, 2, 3, 6] []))
 (.ret))))⟩
/-- 21: undertow/undertowref02.SameInts -/
def h21 : Vm.Hint := ⟨[0, 1, 4, 5, 10, 14, 25], [], [], [[0], [0, 0, 0, 0, 0], [0], [0], [0, 0, 0, 0], [0, 0, 0], [0, 0, 0, 0, 0, 0, 0, 0, 0], [0], [0]], [([2], []), ([], []), ([0, 1, 4], []), ([4], []), ([], []), ([6], []), ([5], []), ([0, 1, 3, 6], []), ([0, 1, 3, 5], [])]⟩
def ir_undertowref02_SameIntsl0 : C :=
 .seq (.seq (.reg [⟨.mv (.s 3), none⟩,
   ⟨.mv (.s 0), none⟩,
   ⟨.len 1 (.r 1), none⟩,
   ⟨.bin .lss (.r 0) (.r 2), none⟩] [] [] [(5, 3, none)])
 (.cond (.s 5) (.skip)
  (.exit 0)))
 (.seq (.block 1 (.seq (.seq (.reg [⟨.mv (.s 0), none⟩,
    ⟨.mv (.s 3), none⟩,
    ⟨.iaS 1 (.r 0) (.r 1), none⟩,
    ⟨.load 0 false 1 (.r 2), none⟩,
    ⟨.mv (.s 1), none⟩,
    ⟨.mv (.s 3), none⟩,
    ⟨.iaS 1 (.r 4) (.r 5), none⟩,
    ⟨.load 0 false 1 (.r 6), none⟩,
    ⟨.bin .neq (.r 3) (.r 7), none⟩] [] [(2, 6), (2, 7), (3, 6), (3, 7)] [(6, 8, none)])
  (.drop [5] []))
  (.cond (.s 6) (.seq (.seq (.reg [⟨.mv (.c (.bool false)), none⟩] [] [] [(2, 0, none)])
   (.drop [0, 1, 3, 6] []))
   (.ret))
   (.skip))))
 (.seq (.reg [⟨.mv (.s 3), none⟩,
   ⟨.bin .add (.r 0) (.c (.int .i64 1)), none⟩,
   ⟨.mv (.r 1), none⟩] [] [] [(3, 2, none)])
 (.drop [6] [])))
def ir_undertowref02_SameInts : Vm.Fn := ⟨[0, 1, 4, 5, 10, 14, 25], 0, 0, [.slot 2],
 .seq (.seq (.reg [⟨.mv (.c (.bool false)), none⟩] [] [] [(2, 0, none)])
 (.drop [2] []))
 (.seq (.seq (.reg [⟨.mv (.s 0), none⟩,
   ⟨.len 1 (.r 0), none⟩,
   ⟨.mv (.s 1), none⟩,
   ⟨.len 1 (.r 2), none⟩,
   ⟨.bin .neq (.r 1) (.r 3), none⟩] [] [] [(4, 4, none)])
 (.cond (.s 4) (.seq (.seq (.reg [⟨.mv (.c (.bool false)), none⟩] [] [] [(2, 0, none)])
  (.drop [0, 1, 4] []))
  (.ret))
  (.skip)))
 (.seq (.seq (.seq (.reg [⟨.mv (.c (.int .i64 0)), none⟩] [] [] [(3, 0, none)])
 (.drop [4] []))
 (.block 0 (.loop ir_undertowref02_SameIntsl0)))
 (.seq (.seq (.reg [⟨.mv (.c (.bool true)), none⟩] [] [] [(2, 0, none)])
 (.drop [0, 1, 3, 5] []))
 (.ret))))⟩
/-- 22: undertow/moment.Sort -/
def h22 : Vm.Hint := ⟨[0, 2, 3, 4, 5, 6, 7, 11, 12, 13, 14, 34, 38], [], [3], [[0], [1], [0, 0, 0, 0], [0], [0, 0, 0], [0], [0, 0, 0, 0, 0], [0, 0, 0, 0, 0, 0, 0, 0, 0, 0, 0, 0, 0, 0, 0, 0, 0], [0, 0], [0, 0], [0, 0], [0, 0, 0, 0], [0, 0, 1, 2, 0], [0, 0]], [([1], []), ([], []), ([], []), ([], []), ([], []), ([], []), ([10], []), ([6], []), ([5, 11], []), ([5, 11], []), ([7, 8, 9, 10], []), ([12], []), ([4], []), ([0, 2, 3, 4, 12], [(false, 0)])]⟩
def ir_moment_Sortl0 : C :=
 .seq (.reg [⟨.bin .lss (.s 9) (.s 8), none⟩] [] [] [(10, 0, none)])
 (.seq (.cond (.s 10) (.skip)
  (.exit 2))
 (.seq (.block 3 (.seq (.seq (.reg [⟨.mv (.s 9), none⟩,
    ⟨.iaS 1 (.s 7) (.s 9), none⟩,
    ⟨.load 0 false 1 (.r 1), none⟩,
    ⟨.mv (.r 0), none⟩,
    ⟨.mv (.r 2), none⟩] [] [] [(5, 3, none), (6, 4, none)])
  (.drop [10] []))
  (.seq (.seq (.reg [⟨.mv (.s 3), none⟩,
    ⟨.mv (.s 5), none⟩,
    ⟨.iaS 1 (.r 0) (.r 1), none⟩,
    ⟨.load 0 false 1 (.r 2), none⟩,
    ⟨.un .not (.r 3), none⟩,
    ⟨.mv (.r 4), none⟩,
    ⟨.mv (.s 4), some (5, true)⟩,
    ⟨.bin .lss (.r 6) (.c (.int .i64 0)), some (5, true)⟩,
    ⟨.mv (.r 7), some (5, true)⟩,
    ⟨.mv (.s 6), some (8, false)⟩,
    ⟨.mv (.s 0), some (8, false)⟩,
    ⟨.mv (.s 4), some (8, false)⟩,
    ⟨.iaS 1 (.r 10) (.r 11), some (8, false)⟩,
    ⟨.load 0 false 1 (.r 12), some (8, false)⟩,
    ⟨.call .val n_moment_Less [(.r 9), (.r 13)], some (8, false)⟩,
    ⟨.pick (.r 8) (.c (.bool true)) (.r 14), some (5, true)⟩,
    ⟨.pick (.r 5) (.r 15) (.c (.bool false)), none⟩] [] [] [(11, 16, none)])
  (.drop [6] []))
  (.cond (.s 11) (.seq (.reg [⟨.mv (.s 5), none⟩,
     ⟨.mv (.r 0), none⟩] [] [] [(4, 1, none)])
   (.drop [5, 11] []))
   (.skip)))))
 (.seq (.reg [⟨.bin .add (.s 9) (.c (.int .i64 1)), none⟩,
   ⟨.mv (.r 0), none⟩] [] [] [(9, 1, none)])
 (.drop [5, 11] []))))
def ir_moment_Sortl1 : C :=
 .block 1 (.seq (.reg [⟨.mv (.c (.int .i64 (-1))), none⟩] [] [] [(4, 0, none)])
  (.seq (.seq (.reg [⟨.mv (.s 0), none⟩,
    ⟨.len 1 (.r 0), none⟩,
    ⟨.mv (.c (.int .i64 0)), none⟩] [] [] [(7, 0, none), (8, 1, none), (9, 2, none)])
  (.block 2 (.loop ir_moment_Sortl0)))
  (.seq (.seq (.seq (.reg [⟨.mv (.s 4), none⟩,
    ⟨.bin .lss (.r 0) (.c (.int .i64 0)), none⟩] [] [] [(12, 1, none)])
  (.drop [7, 8, 9, 10] []))
  (.cond (.s 12) (.exit 0)
   (.skip)))
  (.seq (.seq (.reg [⟨.mv (.s 3), none⟩,
    ⟨.mv (.s 4), none⟩,
    ⟨.iaS 1 (.r 0) (.r 1), none⟩,
    ⟨.store 0 1 (.r 2) (.c (.bool true)), none⟩] [] [] [])
  (.drop [12] []))
  (.seq (.reg [⟨.mv (.s 2), none⟩,
    ⟨.mv (.s 4), none⟩,
    ⟨.lit 1 1 [[.int .i64 0]] [(0, (.r 1))], none⟩,
    ⟨.app 2 1 8 (.r 0) (.r 2), none⟩,
    ⟨.mv (.r 3), none⟩] [] [] [(2, 4, some 0)])
  (.drop [4] []))))))
def ir_moment_Sort : Vm.Fn := ⟨[0, 2, 3, 4, 5, 6, 7, 11, 12, 13, 14, 34, 38], 0, 1, [.slot 1],
 .seq (.seq (.reg [⟨.mv (.c (.nils)), none⟩] [] [] [(1, 0, none)])
 (.drop [1] []))
 (.seq (.reg [⟨.onil 0, none⟩] [(false, 0)] [] [(2, 0, some 0)])
 (.seq (.reg [⟨.mv (.s 0), none⟩,
   ⟨.len 1 (.r 0), none⟩,
   ⟨.mksl [.bool false] 1 (.r 1) (.r 1), none⟩,
   ⟨.mv (.r 2), none⟩] [] [] [(3, 3, none)])
 (.seq (.block 0 (.loop ir_moment_Sortl1))
 (.seq (.seq (.reg [⟨.mv (.s 2), none⟩,
   ⟨.mv (.r 0), none⟩] [] [] [(1, 1, none)])
 (.drop [0, 2, 3, 4, 12] [(false, 0)]))
 (.ret)))))⟩
/-- 23: undertow/moment.Last -/
def h23 : Vm.Hint := ⟨[0, 2, 3, 5, 7, 8, 9, 10, 15], [], [], [[0], [0, 0], [0, 0, 0], [0], [0, 0, 0], [0, 0, 0], [0, 0], [0, 0], [0, 0]], [([1], []), ([], []), ([0], []), ([], []), ([7], []), ([], []), ([3, 8], []), ([3, 8], []), ([2, 4, 5, 6, 7], [])]⟩
def ir_moment_Lastl0 : C :=
 .seq (.reg [⟨.bin .lss (.s 6) (.s 5), none⟩] [] [] [(7, 0, none)])
 (.seq (.cond (.s 7) (.skip)
  (.exit 0))
 (.seq (.block 1 (.seq (.seq (.reg [⟨.iaS 1 (.s 4) (.s 6), none⟩,
    ⟨.load 0 false 1 (.r 0), none⟩,
    ⟨.mv (.r 1), none⟩] [] [] [(3, 2, none)])
  (.drop [7] []))
  (.seq (.reg [⟨.mv (.s 2), none⟩,
    ⟨.mv (.s 3), none⟩,
    ⟨.call .val n_moment_Less [(.r 0), (.r 1)], none⟩] [] [] [(8, 2, none)])
  (.cond (.s 8) (.seq (.reg [⟨.mv (.s 3), none⟩,
     ⟨.mv (.r 0), none⟩] [] [] [(2, 1, none)])
   (.drop [3, 8] []))
   (.skip)))))
 (.seq (.reg [⟨.bin .add (.s 6) (.c (.int .i64 1)), none⟩,
   ⟨.mv (.r 0), none⟩] [] [] [(6, 1, none)])
 (.drop [3, 8] []))))
def ir_moment_Last : Vm.Fn := ⟨[0, 2, 3, 5, 7, 8, 9, 10, 15], 0, 0, [.slot 1],
 .seq (.seq (.reg [⟨.mv (.c (.flt 0)), none⟩] [] [] [(1, 0, none)])
 (.drop [1] []))
 (.seq (.reg [⟨.call .val n_moment_First [], none⟩,
   ⟨.mv (.r 0), none⟩] [] [] [(2, 1, none)])
 (.seq (.seq (.seq (.reg [⟨.mv (.s 0), none⟩,
   ⟨.len 1 (.r 0), none⟩,
   ⟨.mv (.c (.int .i64 0)), none⟩] [] [] [(4, 0, none), (5, 1, none), (6, 2, none)])
 (.drop [0] []))
 (.block 0 (.loop ir_moment_Lastl0)))
 (.seq (.seq (.reg [⟨.mv (.s 2), none⟩,
   ⟨.mv (.r 0), none⟩] [] [] [(1, 1, none)])
 (.drop [2, 4, 5, 6, 7] []))
 (.ret))))⟩
/-- 24: math.IsNaN -/
def h24 : Vm.Hint := ⟨[0, 2], [], [], [[0], [0, 0, 0, 0]], [([1], []), ([0], [])]⟩
def ir_math_IsNaN : Vm.Fn := ⟨[0, 2], 0, 0, [.slot 1],
 .seq (.seq (.reg [⟨.mv (.c (.bool false)), none⟩] [] [] [(1, 0, none)])
 (.drop [1] []))
 (.seq (.seq (.reg [⟨.mv (.s 0), none⟩,
   ⟨.mv (.s 0), none⟩,
   ⟨.bin .neq (.r 0) (.r 1), none⟩,
   ⟨.mv (.r 2), none⟩] [] [] [(1, 3, none)])
 (.drop [0] []))
 (.ret))⟩
/-- 25: math.IsInf -/
def h25 : Vm.Hint := ⟨[0, 1, 4, 6, 10], [], [], [[0], [0, 0], [0, 0, 0], [0, 0], [0, 0, 0], [0, 0, 0]], [([2], []), ([], []), ([1, 3], []), ([1, 3], []), ([4], []), ([0, 4], [])]⟩
def ir_math_IsInf : Vm.Fn := ⟨[0, 1, 4, 6, 10], 0, 0, [.slot 2],
 .seq (.seq (.reg [⟨.mv (.c (.bool false)), none⟩] [] [] [(2, 0, none)])
 (.drop [2] []))
 (.seq (.seq (.reg [⟨.mv (.s 1), none⟩,
   ⟨.bin .eql (.r 0) (.c (.int .i64 0)), none⟩] [] [] [(3, 1, none)])
 (.cond (.s 3) (.seq (.reg [⟨.mv (.s 0), none⟩,
    ⟨.call .val n_math_Abs [(.r 0)], none⟩,
    ⟨.mv (.r 1), none⟩] [] [] [(0, 2, none)])
  (.drop [1, 3] []))
  (.seq (.seq (.reg [⟨.mv (.s 1), none⟩,
    ⟨.bin .lss (.r 0) (.c (.int .i64 0)), none⟩] [] [] [(4, 1, none)])
  (.drop [1, 3] []))
  (.cond (.s 4) (.seq (.reg [⟨.mv (.s 0), none⟩,
     ⟨.un .neg (.r 0), none⟩,
     ⟨.mv (.r 1), none⟩] [] [] [(0, 2, none)])
   (.drop [4] []))
   (.skip)))))
 (.seq (.seq (.reg [⟨.mv (.s 0), none⟩,
   ⟨.bin .gtr (.r 0) (.c (.flt 9218868437227405311)), none⟩,
   ⟨.mv (.r 1), none⟩] [] [] [(2, 2, none)])
 (.drop [0, 4] []))
 (.ret)))⟩
/-- 26: math.Signbit -/
def h26 : Vm.Hint := ⟨[0, 2], [], [], [[0], [0, 0, 0, 0, 0]], [([1], []), ([0], [])]⟩
def ir_math_Signbit : Vm.Fn := ⟨[0, 2], 0, 0, [.slot 1],
 .seq (.seq (.reg [⟨.mv (.c (.bool false)), none⟩] [] [] [(1, 0, none)])
 (.drop [1] []))
 (.seq (.seq (.reg [⟨.mv (.s 0), none⟩,
   ⟨.prim .bits (.r 0), none⟩,
   ⟨.i2i .i64 (.r 1), none⟩,
   ⟨.bin .lss (.r 2) (.c (.int .i64 0)), none⟩,
   ⟨.mv (.r 3), none⟩] [] [] [(1, 4, none)])
 (.drop [0] []))
 (.ret))⟩
/-- 27: math.Floor -/
def h27 : Vm.Hint := ⟨[0, 2], [], [], [[0], [0, 0, 0], [0, 0, 0]], [([1], []), ([0], []), ([0], [])]⟩
def ir_math_Floor : Vm.Fn := ⟨[0, 2], 0, 0, [.slot 1],
 .seq (.seq (.reg [⟨.mv (.c (.flt 0)), none⟩] [] [] [(1, 0, none)])
 (.drop [1] []))
 (.seq (.cond (.c (.bool true)) (.seq (.seq (.reg [⟨.mv (.s 0), none⟩,
    ⟨.prim .floor (.r 0), none⟩,
    ⟨.mv (.r 1), none⟩] [] [] [(1, 2, none)])
  (.drop [0] []))
  (.ret))
  (.skip))
 (.seq (.seq (.reg [⟨.mv (.s 0), none⟩,
   ⟨.call .val n_math_floor [(.r 0)], none⟩,
   ⟨.mv (.r 1), none⟩] [] [] [(1, 2, none)])
 (.drop [0] []))
 (.ret)))⟩
/-- 29: math.Inf -/
def h29 : Vm.Hint := ⟨[0, 2, 3, 5], [], [], [[0], [0], [0, 0], [0], [0], [0, 0, 0]], [([1], []), ([2], []), ([0], []), ([3], []), ([3], []), ([2], [])]⟩
def ir_math_Inf : Vm.Fn := ⟨[0, 2, 3, 5], 0, 0, [.slot 1],
 .seq (.seq (.reg [⟨.mv (.c (.flt 0)), none⟩] [] [] [(1, 0, none)])
 (.drop [1] []))
 (.seq (.seq (.reg [⟨.mv (.c (.int .u64 0)), none⟩] [] [] [(2, 0, none)])
 (.drop [2] []))
 (.seq (.seq (.seq (.reg [⟨.mv (.s 0), none⟩,
   ⟨.bin .geq (.r 0) (.c (.int .i64 0)), none⟩] [] [] [(3, 1, none)])
 (.drop [0] []))
 (.cond (.s 3) (.seq (.reg [⟨.mv (.c (.int .u64 9218868437227405312)), none⟩] [] [] [(2, 0, none)])
  (.drop [3] []))
  (.seq (.reg [⟨.mv (.c (.int .u64 18442240474082181120)), none⟩] [] [] [(2, 0, none)])
  (.drop [3] []))))
 (.seq (.seq (.reg [⟨.mv (.s 2), none⟩,
   ⟨.prim .frombits (.r 0), none⟩,
   ⟨.mv (.r 1), none⟩] [] [] [(1, 2, none)])
 (.drop [2] []))
 (.ret))))⟩
/-- 30: math.NaN -/
def h30 : Vm.Hint := ⟨[0], [], [], [[0], [0, 0]], [([0], []), ([], [])]⟩
def ir_math_NaN : Vm.Fn := ⟨[0], 0, 0, [.slot 0],
 .seq (.seq (.reg [⟨.mv (.c (.flt 0)), none⟩] [] [] [(0, 0, none)])
 (.drop [0] []))
 (.seq (.reg [⟨.prim .frombits (.c (.int .u64 9221120237041090561)), none⟩,
   ⟨.mv (.r 0), none⟩] [] [] [(0, 1, none)])
 (.ret))⟩
/-- 31: math.Abs -/
def h31 : Vm.Hint := ⟨[0, 2], [], [], [[0], [0, 0, 0, 0, 0]], [([1], []), ([0], [])]⟩
def ir_math_Abs : Vm.Fn := ⟨[0, 2], 0, 0, [.slot 1],
 .seq (.seq (.reg [⟨.mv (.c (.flt 0)), none⟩] [] [] [(1, 0, none)])
 (.drop [1] []))
 (.seq (.seq (.reg [⟨.mv (.s 0), none⟩,
   ⟨.prim .bits (.r 0), none⟩,
   ⟨.bin .andNot (.r 1) (.c (.int .u64 9223372036854775808)), none⟩,
   ⟨.prim .frombits (.r 2), none⟩,
   ⟨.mv (.r 3), none⟩] [] [] [(1, 4, none)])
 (.drop [0] []))
 (.ret))⟩
/-- 33: math.floor -/
def h33 : Vm.Hint := ⟨[0, 2, 3, 4, 5, 16, 19, 27], [], [], [[0], [0, 0, 0, 0, 0, 0, 0, 0, 0, 0], [0, 0], [0, 0], [0, 0, 0, 0, 0, 0, 0, 0], [0, 0], [0, 0, 0], [0, 0, 0], [0, 0, 0, 0, 0, 0, 0], [0, 0]], [([1], []), ([], []), ([0, 5], []), ([5], []), ([0, 6], []), ([3], []), ([7], []), ([2, 7], []), ([0, 6], []), ([4], [])]⟩
def ir_math_floor : Vm.Fn := ⟨[0, 2, 3, 4, 5, 16, 19, 27], 0, 0, [.slot 1],
 .seq (.seq (.reg [⟨.mv (.c (.flt 0)), none⟩] [] [] [(1, 0, none)])
 (.drop [1] []))
 (.seq (.seq (.reg [⟨.mv (.s 0), none⟩,
   ⟨.bin .eql (.r 0) (.c (.flt 0)), none⟩,
   ⟨.mv (.r 1), none⟩,
   ⟨.mv (.s 0), some (2, false)⟩,
   ⟨.call .val n_math_IsNaN [(.r 3)], some (2, false)⟩,
   ⟨.pick (.r 2) (.c (.bool true)) (.r 4), none⟩,
   ⟨.mv (.r 5), none⟩,
   ⟨.mv (.s 0), some (6, false)⟩,
   ⟨.call .val n_math_IsInf [(.r 7), (.c (.int .i64 0))], some (6, false)⟩,
   ⟨.pick (.r 6) (.c (.bool true)) (.r 8), none⟩] [] [] [(5, 9, none)])
 (.cond (.s 5) (.seq (.seq (.reg [⟨.mv (.s 0), none⟩,
    ⟨.mv (.r 0), none⟩] [] [] [(1, 1, none)])
  (.drop [0, 5] []))
  (.ret))
  (.skip)))
 (.seq (.seq (.seq (.reg [⟨.mv (.s 0), none⟩,
   ⟨.bin .lss (.r 0) (.c (.flt 0)), none⟩] [] [] [(6, 1, none)])
 (.drop [5] []))
 (.cond (.s 6) (.seq (.seq (.reg [⟨.mv (.s 0), none⟩,
    ⟨.un .neg (.r 0), none⟩,
    ⟨.call .val n_math_Modf [(.r 1)], none⟩,
    ⟨.mv (.r 2), none⟩,
    ⟨.ext (.r 3) 0, none⟩,
    ⟨.ext (.r 3) 1, none⟩,
    ⟨.mv (.r 4), none⟩,
    ⟨.mv (.r 5), none⟩] [] [] [(2, 6, none), (3, 7, none)])
  (.drop [0, 6] []))
  (.seq (.seq (.seq (.reg [⟨.mv (.s 3), none⟩,
    ⟨.bin .neq (.r 0) (.c (.flt 0)), none⟩] [] [] [(7, 1, none)])
  (.drop [3] []))
  (.cond (.s 7) (.seq (.reg [⟨.mv (.s 2), none⟩,
     ⟨.bin .add (.r 0) (.c (.flt 4607182418800017408)), none⟩,
     ⟨.mv (.r 1), none⟩] [] [] [(2, 2, none)])
   (.drop [7] []))
   (.skip)))
  (.seq (.seq (.reg [⟨.mv (.s 2), none⟩,
    ⟨.un .neg (.r 0), none⟩,
    ⟨.mv (.r 1), none⟩] [] [] [(1, 2, none)])
  (.drop [2, 7] []))
  (.ret))))
  (.skip)))
 (.seq (.seq (.reg [⟨.mv (.s 0), none⟩,
   ⟨.call .val n_math_Modf [(.r 0)], none⟩,
   ⟨.mv (.r 1), none⟩,
   ⟨.ext (.r 2) 0, none⟩,
   ⟨.ext (.r 2) 1, none⟩,
   ⟨.mv (.r 3), none⟩,
   ⟨.mv (.r 4), none⟩] [] [] [(4, 5, none)])
 (.drop [0, 6] []))
 (.seq (.seq (.reg [⟨.mv (.s 4), none⟩,
   ⟨.mv (.r 0), none⟩] [] [] [(1, 1, none)])
 (.drop [4] []))
 (.ret)))))⟩
/-- 35: math.Modf -/
def h35 : Vm.Hint := ⟨[0, 2, 3], [], [], [[0, 0], [0, 0, 0], [0, 0, 0, 0, 0, 0]], [([1, 2], []), ([], []), ([0], [])]⟩
def ir_math_Modf : Vm.Fn := ⟨[0, 2, 3], 0, 0, [.slot 1, .slot 2],
 .seq (.seq (.reg [⟨.mv (.c (.flt 0)), none⟩,
   ⟨.mv (.c (.flt 0)), none⟩] [] [] [(1, 0, none), (2, 1, none)])
 (.drop [1, 2] []))
 (.seq (.reg [⟨.mv (.s 0), none⟩,
   ⟨.call .val n_math_Trunc [(.r 0)], none⟩,
   ⟨.mv (.r 1), none⟩] [] [] [(1, 2, none)])
 (.seq (.seq (.reg [⟨.mv (.s 0), none⟩,
   ⟨.mv (.s 1), none⟩,
   ⟨.bin .sub (.r 0) (.r 1), none⟩,
   ⟨.mv (.s 0), none⟩,
   ⟨.call .val n_math_Copysign [(.r 2), (.r 3)], none⟩,
   ⟨.mv (.r 4), none⟩] [] [] [(2, 5, none)])
 (.drop [0] []))
 (.ret)))⟩
/-- 36: math.Trunc -/
def h36 : Vm.Hint := ⟨[0, 2], [], [], [[0], [0, 0, 0], [0, 0, 0]], [([1], []), ([0], []), ([0], [])]⟩
def ir_math_Trunc : Vm.Fn := ⟨[0, 2], 0, 0, [.slot 1],
 .seq (.seq (.reg [⟨.mv (.c (.flt 0)), none⟩] [] [] [(1, 0, none)])
 (.drop [1] []))
 (.seq (.cond (.c (.bool true)) (.seq (.seq (.reg [⟨.mv (.s 0), none⟩,
    ⟨.prim .trunc (.r 0), none⟩,
    ⟨.mv (.r 1), none⟩] [] [] [(1, 2, none)])
  (.drop [0] []))
  (.ret))
  (.skip))
 (.seq (.seq (.reg [⟨.mv (.s 0), none⟩,
   ⟨.call .val n_math_trunc [(.r 0)], none⟩,
   ⟨.mv (.r 1), none⟩] [] [] [(1, 2, none)])
 (.drop [0] []))
 (.ret)))⟩
/-- 37: math.Copysign -/
def h37 : Vm.Hint := ⟨[0, 1, 4], [], [], [[0], [0, 0, 0, 0, 0, 0, 0, 0, 0]], [([2], []), ([0, 1], [])]⟩
def ir_math_Copysign : Vm.Fn := ⟨[0, 1, 4], 0, 0, [.slot 2],
 .seq (.seq (.reg [⟨.mv (.c (.flt 0)), none⟩] [] [] [(2, 0, none)])
 (.drop [2] []))
 (.seq (.seq (.reg [⟨.mv (.s 0), none⟩,
   ⟨.prim .bits (.r 0), none⟩,
   ⟨.bin .andNot (.r 1) (.c (.int .u64 9223372036854775808)), none⟩,
   ⟨.mv (.s 1), none⟩,
   ⟨.prim .bits (.r 3), none⟩,
   ⟨.bin .and (.r 4) (.c (.int .u64 9223372036854775808)), none⟩,
   ⟨.bin .or (.r 2) (.r 5), none⟩,
   ⟨.prim .frombits (.r 6), none⟩,
   ⟨.mv (.r 7), none⟩] [] [] [(2, 8, none)])
 (.drop [0, 1] []))
 (.ret))⟩
/-- 39: math.trunc -/
def h39 : Vm.Hint := ⟨[0, 2, 3, 4, 7, 17], [], [], [[0], [0, 0, 0], [0, 0, 0], [0, 0, 0], [0, 0, 0, 0, 0], [0, 0], [0, 0, 0, 0, 0, 0, 0], [0, 0, 0]], [([1], []), ([], []), ([0, 4], []), ([0, 4], []), ([], []), ([], []), ([3, 5], []), ([2, 3, 5], [])]⟩
def ir_math_trunc : Vm.Fn := ⟨[0, 2, 3, 4, 7, 17], 0, 0, [.slot 1],
 .seq (.seq (.reg [⟨.mv (.c (.flt 0)), none⟩] [] [] [(1, 0, none)])
 (.drop [1] []))
 (.seq (.seq (.reg [⟨.mv (.s 0), none⟩,
   ⟨.call .val n_math_Abs [(.r 0)], none⟩,
   ⟨.bin .lss (.r 1) (.c (.flt 4607182418800017408)), none⟩] [] [] [(4, 2, none)])
 (.cond (.s 4) (.seq (.seq (.reg [⟨.mv (.s 0), none⟩,
    ⟨.call .val n_math_Copysign [(.c (.flt 0)), (.r 0)], none⟩,
    ⟨.mv (.r 1), none⟩] [] [] [(1, 2, none)])
  (.drop [0, 4] []))
  (.ret))
  (.skip)))
 (.seq (.seq (.reg [⟨.mv (.s 0), none⟩,
   ⟨.prim .bits (.r 0), none⟩,
   ⟨.mv (.r 1), none⟩] [] [] [(2, 2, none)])
 (.drop [0, 4] []))
 (.seq (.reg [⟨.mv (.s 2), none⟩,
   ⟨.bin .shr (.r 0) (.c (.int .u64 52)), none⟩,
   ⟨.bin .and (.r 1) (.c (.int .u64 2047)), none⟩,
   ⟨.bin .sub (.r 2) (.c (.int .u64 1023)), none⟩,
   ⟨.mv (.r 3), none⟩] [] [] [(3, 4, none)])
 (.seq (.seq (.reg [⟨.mv (.s 3), none⟩,
   ⟨.bin .lss (.r 0) (.c (.int .u64 52)), none⟩] [] [] [(5, 1, none)])
 (.cond (.s 5) (.seq (.reg [⟨.mv (.s 2), none⟩,
    ⟨.mv (.s 3), none⟩,
    ⟨.bin .sub (.c (.int .u64 52)) (.r 1), none⟩,
    ⟨.bin .shl (.c (.int .u64 1)) (.r 2), none⟩,
    ⟨.bin .sub (.r 3) (.c (.int .u64 1)), none⟩,
    ⟨.bin .andNot (.r 0) (.r 4), none⟩,
    ⟨.mv (.r 5), none⟩] [] [] [(2, 6, none)])
  (.drop [3, 5] []))
  (.skip)))
 (.seq (.seq (.reg [⟨.mv (.s 2), none⟩,
   ⟨.prim .frombits (.r 0), none⟩,
   ⟨.mv (.r 1), none⟩] [] [] [(1, 2, none)])
 (.drop [2, 3, 5] []))
 (.ret))))))⟩
def hints (f : Nat) : Option Vm.Hint := if f < 19 then (if f < 11 then (if f < 7 then (if f < 5 then (if f < 4 then (if f = 3 then some h3 else none) else (if f = 4 then some h4 else none)) else (if f < 6 then (if f = 5 then some h5 else none) else (if f = 6 then some h6 else none))) else (if f < 9 then (if f < 8 then (if f = 7 then some h7 else none) else (if f = 8 then some h8 else none)) else (if f < 10 then (if f = 9 then some h9 else none) else (if f = 10 then some h10 else none)))) else (if f < 15 then (if f < 13 then (if f < 12 then (if f = 11 then some h11 else none) else (if f = 12 then some h12 else none)) else (if f < 14 then (if f = 13 then some h13 else none) else (if f = 14 then some h14 else none))) else (if f < 17 then (if f < 16 then (if f = 15 then some h15 else none) else (if f = 16 then some h16 else none)) else (if f < 18 then (if f = 17 then some h17 else none) else (if f = 18 then some h18 else none))))) else (if f < 27 then (if f < 23 then (if f < 21 then (if f < 20 then (if f = 19 then some h19 else none) else (if f = 20 then some h20 else none)) else (if f < 22 then (if f = 21 then some h21 else none) else (if f = 22 then some h22 else none))) else (if f < 25 then (if f < 24 then (if f = 23 then some h23 else none) else (if f = 24 then some h24 else none)) else (if f < 26 then (if f = 25 then some h25 else none) else (if f = 26 then some h26 else none)))) else (if f < 33 then (if f < 30 then (if f < 29 then (if f = 27 then some h27 else none) else (if f = 29 then some h29 else none)) else (if f < 31 then (if f = 30 then some h30 else none) else (if f = 31 then some h31 else none))) else (if f < 36 then (if f < 35 then (if f = 33 then some h33 else none) else (if f = 35 then some h35 else none)) else (if f < 37 then (if f = 36 then some h36 else none) else (if f < 39 then (if f = 37 then some h37 else none) else (if f = 39 then some h39 else none))))))
noncomputable abbrev pg : Vm.Pg := pgOf Go.Proofs.Try.prog hints
theorem fn_undertowlaw02_MomentSteps : pg.fn 3 = some ir_undertowlaw02_MomentSteps := by kernel_rfl
theorem fn_undertowlaw02_MomentPlaces : pg.fn 4 = some ir_undertowlaw02_MomentPlaces := by kernel_rfl
theorem fn_undertowlaw02_MomentOrders : pg.fn 5 = some ir_undertowlaw02_MomentOrders := by kernel_rfl
theorem fn_undertowlaw02_MomentTotal : pg.fn 6 = some ir_undertowlaw02_MomentTotal := by kernel_rfl
theorem fn_undertowlaw02_MomentSorts : pg.fn 7 = some ir_undertowlaw02_MomentSorts := by kernel_rfl
theorem fn_undertowlaw02_alive : pg.fn 8 = some ir_undertowlaw02_alive := by kernel_rfl
theorem fn_moment_Of : pg.fn 9 = some ir_moment_Of := by kernel_rfl
theorem fn_moment_Step : pg.fn 10 = some ir_moment_Step := by kernel_rfl
theorem fn_undertowref02_Step : pg.fn 11 = some ir_undertowref02_Step := by kernel_rfl
theorem fn_moment_First : pg.fn 12 = some ir_moment_First := by kernel_rfl
theorem fn_moment_Later : pg.fn 13 = some ir_moment_Later := by kernel_rfl
theorem fn_undertowref02_Rank : pg.fn 14 = some ir_undertowref02_Rank := by kernel_rfl
theorem fn_undertowref02_None : pg.fn 15 = some ir_undertowref02_None := by kernel_rfl
theorem fn_moment_Never : pg.fn 16 = some ir_moment_Never := by kernel_rfl
theorem fn_moment_Less : pg.fn 17 = some ir_moment_Less := by kernel_rfl
theorem fn_undertowref02_Less : pg.fn 18 = some ir_undertowref02_Less := by kernel_rfl
theorem fn_moment_Same : pg.fn 19 = some ir_moment_Same := by kernel_rfl
theorem fn_undertowref02_Sort : pg.fn 20 = some ir_undertowref02_Sort := by kernel_rfl
theorem fn_undertowref02_SameInts : pg.fn 21 = some ir_undertowref02_SameInts := by kernel_rfl
theorem fn_moment_Sort : pg.fn 22 = some ir_moment_Sort := by kernel_rfl
theorem fn_moment_Last : pg.fn 23 = some ir_moment_Last := by kernel_rfl
theorem fn_math_IsNaN : pg.fn 24 = some ir_math_IsNaN := by kernel_rfl
theorem fn_math_IsInf : pg.fn 25 = some ir_math_IsInf := by kernel_rfl
theorem fn_math_Signbit : pg.fn 26 = some ir_math_Signbit := by kernel_rfl
theorem fn_math_Floor : pg.fn 27 = some ir_math_Floor := by kernel_rfl
theorem fn_math_Inf : pg.fn 29 = some ir_math_Inf := by kernel_rfl
theorem fn_math_NaN : pg.fn 30 = some ir_math_NaN := by kernel_rfl
theorem fn_math_Abs : pg.fn 31 = some ir_math_Abs := by kernel_rfl
theorem fn_math_floor : pg.fn 33 = some ir_math_floor := by kernel_rfl
theorem fn_math_Modf : pg.fn 35 = some ir_math_Modf := by kernel_rfl
theorem fn_math_Trunc : pg.fn 36 = some ir_math_Trunc := by kernel_rfl
theorem fn_math_Copysign : pg.fn 37 = some ir_math_Copysign := by kernel_rfl
theorem fn_math_trunc : pg.fn 39 = some ir_math_trunc := by kernel_rfl
def irL : List (Nat × Vm.Fn) := [(3, ir_undertowlaw02_MomentSteps), (4, ir_undertowlaw02_MomentPlaces), (5, ir_undertowlaw02_MomentOrders), (6, ir_undertowlaw02_MomentTotal), (7, ir_undertowlaw02_MomentSorts), (8, ir_undertowlaw02_alive), (9, ir_moment_Of), (10, ir_moment_Step), (11, ir_undertowref02_Step), (12, ir_moment_First), (13, ir_moment_Later), (14, ir_undertowref02_Rank), (15, ir_undertowref02_None), (16, ir_moment_Never), (17, ir_moment_Less), (18, ir_undertowref02_Less), (19, ir_moment_Same), (20, ir_undertowref02_Sort), (21, ir_undertowref02_SameInts), (22, ir_moment_Sort), (23, ir_moment_Last), (24, ir_math_IsNaN), (25, ir_math_IsInf), (26, ir_math_Signbit), (27, ir_math_Floor), (29, ir_math_Inf), (30, ir_math_NaN), (31, ir_math_Abs), (33, ir_math_floor), (35, ir_math_Modf), (36, ir_math_Trunc), (37, ir_math_Copysign), (39, ir_math_trunc)]
theorem irL_ok : ∀ q ∈ irL, pg.fn q.1 = some q.2 := by
  simp only [irL, List.forall_mem_cons]
  exact ⟨fn_undertowlaw02_MomentSteps, fn_undertowlaw02_MomentPlaces, fn_undertowlaw02_MomentOrders, fn_undertowlaw02_MomentTotal, fn_undertowlaw02_MomentSorts, fn_undertowlaw02_alive, fn_moment_Of, fn_moment_Step, fn_undertowref02_Step, fn_moment_First, fn_moment_Later, fn_undertowref02_Rank, fn_undertowref02_None, fn_moment_Never, fn_moment_Less, fn_undertowref02_Less, fn_moment_Same, fn_undertowref02_Sort, fn_undertowref02_SameInts, fn_moment_Sort, fn_moment_Last, fn_math_IsNaN, fn_math_IsInf, fn_math_Signbit, fn_math_Floor, fn_math_Inf, fn_math_NaN, fn_math_Abs, fn_math_floor, fn_math_Modf, fn_math_Trunc, fn_math_Copysign, fn_math_trunc, by simp⟩
end Go.Proofs.Ytnmljkhpmcgdoaa
