/- The functions' own form, printed by a tool of this session out of the given translation. -/
import Derived.Test.YtgcahipcbidojaaVf
import Derived.Test.YtgcahipcbidojaaChecked
import Derived.KernelRfl
namespace Go.Proofs.Ytgcahipcbidojaa
open Go Go.Vm
abbrev n_undertowlaw03_ChooseOf : Nat := 3
abbrev n_undertowlaw03_ChooseRight : Nat := 4
abbrev n_undertowlaw03_ChooseOne : Nat := 5
abbrev n_undertowlaw03_ChooseFair : Nat := 6
abbrev n_undertowlaw03_ChooseJoin : Nat := 7
abbrev n_undertowlaw03_alive : Nat := 8
abbrev n_choose_Of : Nat := 9
abbrev n_undertowref03_Of : Nat := 10
abbrev n_choose_Oldest : Nat := 11
abbrev n_undertowref03_Oldest : Nat := 12
abbrev n_choose_Right : Nat := 13
abbrev n_undertowref03_Right : Nat := 14
abbrev n_undertowref02_None : Nat := 15
abbrev n_choose_Fair : Nat := 16
abbrev n_undertowref03_Fair : Nat := 17
abbrev n_choose_Windows : Nat := 18
abbrev n_math_IsNaN : Nat := 19
abbrev n_math_IsInf : Nat := 20
abbrev n_math_Mod : Nat := 21
abbrev n_math_Floor : Nat := 22
abbrev n_math_Abs : Nat := 23
abbrev n_math_Signbit : Nat := 24
abbrev n_undertowref03_Whole : Nat := 26
abbrev n_choose_whole : Nat := 27
abbrev n_math_archMod : Nat := 28
abbrev n_math_mod : Nat := 29
abbrev n_math_floor : Nat := 31
abbrev n_math_NaN : Nat := 33
abbrev n_math_Frexp : Nat := 34
abbrev n_math_Ldexp : Nat := 35
abbrev n_math_Modf : Nat := 36
abbrev n_math_archFrexp : Nat := 37
abbrev n_math_frexp : Nat := 38
abbrev n_math_archLdexp : Nat := 39
abbrev n_math_ldexp : Nat := 40
abbrev n_math_Trunc : Nat := 41
abbrev n_math_Copysign : Nat := 42
abbrev n_math_normalize : Nat := 43
abbrev n_math_Inf : Nat := 44
abbrev n_math_trunc : Nat := 46
/-- 3: undertow/undertowlaw03.ChooseOf -/
def h3 : Vm.Hint := ⟨[0, 1, 4, 5, 6, 7, 8, 10], [], [], [[0], [0, 0], [0], [0, 0, 0, 0, 0, 0, 0, 0], [0, 0, 0, 0, 0, 0, 0, 0], [0, 0, 0, 0, 0, 0, 0, 0, 0, 0, 0, 0]], [([2], []), ([], []), ([0, 1, 7], []), ([7], []), ([0, 1], []), ([3, 4, 5, 6], [])]⟩
def ir_undertowlaw03_ChooseOf : Vm.Fn := ⟨[0, 1, 4, 5, 6, 7, 8, 10], 0, 0, [.slot 2],
 .seq (.seq (.reg [⟨.mv (.c (.bool false)), none⟩] [] [] [(2, 0, none)])
 (.drop [2] []))
 (.seq (.seq (.reg [⟨.call .val n_undertowlaw03_alive [], none⟩,
   ⟨.un .not (.r 0), none⟩] [] [] [(7, 1, none)])
 (.cond (.s 7) (.seq (.seq (.reg [⟨.mv (.c (.bool false)), none⟩] [] [] [(2, 0, none)])
  (.drop [0, 1, 7] []))
  (.ret))
  (.skip)))
 (.seq (.seq (.reg [⟨.mv (.s 0), none⟩,
   ⟨.mv (.s 1), none⟩,
   ⟨.call .val n_choose_Of [(.r 0), (.r 1)], none⟩,
   ⟨.mv (.r 2), none⟩,
   ⟨.ext (.r 3) 0, none⟩,
   ⟨.ext (.r 3) 1, none⟩,
   ⟨.mv (.r 4), none⟩,
   ⟨.mv (.r 5), none⟩] [] [] [(3, 6, none), (4, 7, none)])
 (.drop [7] []))
 (.seq (.seq (.reg [⟨.mv (.s 0), none⟩,
   ⟨.mv (.s 1), none⟩,
   ⟨.call .val n_undertowref03_Of [(.r 0), (.r 1)], none⟩,
   ⟨.mv (.r 2), none⟩,
   ⟨.ext (.r 3) 0, none⟩,
   ⟨.ext (.r 3) 1, none⟩,
   ⟨.mv (.r 4), none⟩,
   ⟨.mv (.r 5), none⟩] [] [] [(5, 6, none), (6, 7, none)])
 (.drop [0, 1] []))
 (.seq (.seq (.reg [⟨.call .val n_undertowlaw03_alive [], none⟩,
   ⟨.mv (.r 0), none⟩,
   ⟨.mv (.s 3), some (1, true)⟩,
   ⟨.mv (.s 5), some (1, true)⟩,
   ⟨.bin .eql (.r 2) (.r 3), some (1, true)⟩,
   ⟨.pick (.r 1) (.r 4) (.c (.bool false)), none⟩,
   ⟨.mv (.r 5), none⟩,
   ⟨.mv (.s 4), some (6, true)⟩,
   ⟨.mv (.s 6), some (6, true)⟩,
   ⟨.eqb false (.r 7) (.r 8), some (6, true)⟩,
   ⟨.pick (.r 6) (.r 9) (.c (.bool false)), none⟩,
   ⟨.mv (.r 10), none⟩] [] [] [(2, 11, none)])
 (.drop [3, 4, 5, 6] []))
 (.ret)))))⟩
/-- 4: undertow/undertowlaw03.ChooseRight -/
def h4 : Vm.Hint := ⟨[0, 1, 2, 4], [1], [], [[1, 0], [0, 0], [0], [0, 0, 0, 0, 0, 0, 0, 0, 0, 0, 0, 0, 0, 0, 0, 0, 0, 0]], [([0, 2], []), ([], []), ([1, 3], [(true, 0)]), ([1, 3], [(true, 0)])]⟩
def ir_undertowlaw03_ChooseRight : Vm.Fn := ⟨[0, 1, 2, 4], 1, 0, [.slot 2],
 .seq (.seq (.reg [⟨.lbox 0 3 (.s 0), none⟩,
   ⟨.mv (.c (.bool false)), none⟩] [(true, 0)] [] [(1, 0, some 1), (2, 1, none)])
 (.drop [0, 2] []))
 (.seq (.seq (.reg [⟨.call .val n_undertowlaw03_alive [], none⟩,
   ⟨.un .not (.r 0), none⟩] [] [] [(3, 1, none)])
 (.cond (.s 3) (.seq (.seq (.reg [⟨.mv (.c (.bool false)), none⟩] [] [] [(2, 0, none)])
  (.drop [1, 3] [(true, 0)]))
  (.ret))
  (.skip)))
 (.seq (.seq (.reg [⟨.call .val n_undertowlaw03_alive [], none⟩,
   ⟨.mv (.r 0), none⟩,
   ⟨.off 2 (.s 1), some (1, true)⟩,
   ⟨.load 0 false 1 (.r 2), some (1, true)⟩,
   ⟨.call .val n_choose_Oldest [(.r 3)], some (1, true)⟩,
   ⟨.off 2 (.s 1), some (1, true)⟩,
   ⟨.load 0 false 1 (.r 5), some (1, true)⟩,
   ⟨.call .val n_undertowref03_Oldest [(.r 6)], some (1, true)⟩,
   ⟨.eqb false (.r 4) (.r 7), some (1, true)⟩,
   ⟨.pick (.r 1) (.r 8) (.c (.bool false)), none⟩,
   ⟨.mv (.r 9), none⟩,
   ⟨.load 0 true 3 (.s 1), some (10, true)⟩,
   ⟨.call .val n_choose_Right [(.r 11)], some (10, true)⟩,
   ⟨.load 0 true 3 (.s 1), some (10, true)⟩,
   ⟨.call .val n_undertowref03_Right [(.r 13)], some (10, true)⟩,
   ⟨.eqb false (.r 12) (.r 14), some (10, true)⟩,
   ⟨.pick (.r 10) (.r 15) (.c (.bool false)), none⟩,
   ⟨.mv (.r 16), none⟩] [] [(3, 6), (4, 6), (11, 13), (12, 13)] [(2, 17, none)])
 (.drop [1, 3] [(true, 0)]))
 (.ret)))⟩
/-- 5: undertow/undertowlaw03.ChooseOne -/
def h5 : Vm.Hint := ⟨[0, 1, 4, 5, 6, 7, 8, 9, 10, 12, 40], [], [], [[0], [0, 0], [0], [0, 0, 0, 0, 0, 0, 0, 0], [0, 0, 0, 0, 0, 0, 0, 0, 0], [0, 0, 0, 0, 0, 0, 0], [0, 0, 0, 0, 0, 0, 0, 0, 0, 0], [0, 0, 0, 0, 0, 0, 0, 0, 0, 0, 0, 0, 0, 0], [0, 0, 0, 0, 0, 0, 0, 0, 0, 0, 0, 0, 0, 0, 0, 0, 0, 0, 0, 0, 0, 0, 0, 0, 0, 0, 0, 0, 0, 0, 0, 0, 0, 0, 0, 0, 0, 0, 0, 0, 0]], [([2], []), ([], []), ([0, 1, 9], []), ([9], []), ([], []), ([], []), ([], []), ([0, 1, 3, 4, 5, 6, 7, 8, 10], []), ([0, 1, 3, 4, 5, 6, 7, 8, 10], [])]⟩
def ir_undertowlaw03_ChooseOne : Vm.Fn := ⟨[0, 1, 4, 5, 6, 7, 8, 9, 10, 12, 40], 0, 0, [.slot 2],
 .seq (.seq (.reg [⟨.mv (.c (.bool false)), none⟩] [] [] [(2, 0, none)])
 (.drop [2] []))
 (.seq (.seq (.reg [⟨.call .val n_undertowlaw03_alive [], none⟩,
   ⟨.un .not (.r 0), none⟩] [] [] [(9, 1, none)])
 (.cond (.s 9) (.seq (.seq (.reg [⟨.mv (.c (.bool false)), none⟩] [] [] [(2, 0, none)])
  (.drop [0, 1, 9] []))
  (.ret))
  (.skip)))
 (.seq (.seq (.reg [⟨.mv (.s 0), none⟩,
   ⟨.mv (.s 1), none⟩,
   ⟨.call .val n_choose_Of [(.r 0), (.r 1)], none⟩,
   ⟨.mv (.r 2), none⟩,
   ⟨.ext (.r 3) 0, none⟩,
   ⟨.ext (.r 3) 1, none⟩,
   ⟨.mv (.r 4), none⟩,
   ⟨.mv (.r 5), none⟩] [] [] [(3, 6, none), (4, 7, none)])
 (.drop [9] []))
 (.seq (.reg [⟨.mv (.s 0), none⟩,
   ⟨.mv (.s 1), none⟩,
   ⟨.un .neg (.r 1), none⟩,
   ⟨.call .val n_choose_Of [(.r 0), (.r 2)], none⟩,
   ⟨.mv (.r 3), none⟩,
   ⟨.ext (.r 4) 0, none⟩,
   ⟨.ext (.r 4) 1, none⟩,
   ⟨.mv (.r 5), none⟩,
   ⟨.mv (.r 6), none⟩] [] [] [(5, 7, none), (6, 8, none)])
 (.seq (.reg [⟨.mv (.s 1), none⟩,
   ⟨.call .val n_choose_Of [(.c (.int .i64 1)), (.r 0)], none⟩,
   ⟨.mv (.r 1), none⟩,
   ⟨.ext (.r 2) 0, none⟩,
   ⟨.ext (.r 2) 1, none⟩,
   ⟨.mv (.r 3), none⟩,
   ⟨.mv (.r 4), none⟩] [] [] [(7, 5, none), (8, 6, none)])
 (.seq (.seq (.reg [⟨.mv (.s 0), none⟩,
   ⟨.bin .lss (.r 0) (.c (.int .i64 1)), none⟩,
   ⟨.mv (.r 1), none⟩,
   ⟨.mv (.s 0), some (2, false)⟩,
   ⟨.bin .gtr (.r 3) (.c (.int .i64 1048576)), some (2, false)⟩,
   ⟨.pick (.r 2) (.c (.bool true)) (.r 4), none⟩,
   ⟨.mv (.r 5), none⟩,
   ⟨.mv (.s 1), some (6, false)⟩,
   ⟨.call .val n_undertowref02_None [(.r 7)], some (6, false)⟩,
   ⟨.pick (.r 6) (.c (.bool true)) (.r 8), none⟩] [] [] [(10, 9, none)])
 (.cond (.s 10) (.seq (.seq (.reg [⟨.call .val n_undertowlaw03_alive [], none⟩,
    ⟨.mv (.r 0), none⟩,
    ⟨.mv (.s 4), some (1, true)⟩,
    ⟨.un .not (.r 2), some (1, true)⟩,
    ⟨.pick (.r 1) (.r 3) (.c (.bool false)), none⟩,
    ⟨.mv (.r 4), none⟩,
    ⟨.mv (.s 6), some (5, true)⟩,
    ⟨.un .not (.r 6), some (5, true)⟩,
    ⟨.pick (.r 5) (.r 7) (.c (.bool false)), none⟩,
    ⟨.mv (.r 8), none⟩,
    ⟨.mv (.s 3), some (9, true)⟩,
    ⟨.bin .eql (.r 10) (.c (.int .i64 0)), some (9, true)⟩,
    ⟨.pick (.r 9) (.r 11) (.c (.bool false)), none⟩,
    ⟨.mv (.r 12), none⟩] [] [] [(2, 13, none)])
  (.drop [0, 1, 3, 4, 5, 6, 7, 8, 10] []))
  (.ret))
  (.skip)))
 (.seq (.seq (.reg [⟨.call .val n_undertowlaw03_alive [], none⟩,
   ⟨.mv (.r 0), none⟩,
   ⟨.mv (.s 4), some (1, true)⟩,
   ⟨.pick (.r 1) (.r 2) (.c (.bool false)), none⟩,
   ⟨.mv (.r 3), none⟩,
   ⟨.mv (.s 6), some (4, true)⟩,
   ⟨.pick (.r 4) (.r 5) (.c (.bool false)), none⟩,
   ⟨.mv (.r 6), none⟩,
   ⟨.mv (.s 3), some (7, true)⟩,
   ⟨.bin .geq (.r 8) (.c (.int .i64 0)), some (7, true)⟩,
   ⟨.pick (.r 7) (.r 9) (.c (.bool false)), none⟩,
   ⟨.mv (.r 10), none⟩,
   ⟨.mv (.s 3), some (11, true)⟩,
   ⟨.mv (.s 0), some (11, true)⟩,
   ⟨.bin .lss (.r 12) (.r 13), some (11, true)⟩,
   ⟨.pick (.r 11) (.r 14) (.c (.bool false)), none⟩,
   ⟨.mv (.r 15), none⟩,
   ⟨.mv (.s 5), some (16, true)⟩,
   ⟨.mv (.s 0), some (16, true)⟩,
   ⟨.bin .sub (.r 18) (.c (.int .i64 1)), some (16, true)⟩,
   ⟨.mv (.s 3), some (16, true)⟩,
   ⟨.bin .sub (.r 19) (.r 20), some (16, true)⟩,
   ⟨.bin .eql (.r 17) (.r 21), some (16, true)⟩,
   ⟨.pick (.r 16) (.r 22) (.c (.bool false)), none⟩,
   ⟨.mv (.r 23), none⟩,
   ⟨.mv (.s 8), some (24, true)⟩,
   ⟨.pick (.r 24) (.r 25) (.c (.bool false)), none⟩,
   ⟨.mv (.r 26), none⟩,
   ⟨.mv (.s 7), some (27, true)⟩,
   ⟨.bin .eql (.r 28) (.c (.int .i64 0)), some (27, true)⟩,
   ⟨.pick (.r 27) (.r 29) (.c (.bool false)), none⟩,
   ⟨.mv (.r 30), none⟩,
   ⟨.mv (.s 1), some (31, true)⟩,
   ⟨.call .val n_choose_Oldest [(.r 32)], some (31, true)⟩,
   ⟨.un .not (.r 33), some (31, true)⟩,
   ⟨.mv (.r 34), some (31, true)⟩,
   ⟨.mv (.s 3), some (35, false)⟩,
   ⟨.bin .eql (.r 36) (.c (.int .i64 0)), some (35, false)⟩,
   ⟨.pick (.r 35) (.c (.bool true)) (.r 37), some (31, true)⟩,
   ⟨.pick (.r 31) (.r 38) (.c (.bool false)), none⟩,
   ⟨.mv (.r 39), none⟩] [] [] [(2, 40, none)])
 (.drop [0, 1, 3, 4, 5, 6, 7, 8, 10] []))
 (.ret)))))))⟩
/-- 6: undertow/undertowlaw03.ChooseFair -/
def h6 : Vm.Hint := ⟨[0, 1, 4, 5, 7, 10, 13], [], [], [[0], [0, 0], [0], [0, 0, 0], [0, 0], [0], [0, 0], [0, 0, 0, 0, 0], [0, 0, 0, 0, 0, 0, 0, 0, 0, 0, 0, 0, 0, 0, 0, 0, 0, 0]], [([2], []), ([], []), ([0, 1, 4], []), ([4], []), ([0, 1, 5], []), ([5], []), ([], []), ([6], []), ([0, 1, 3, 6], [])]⟩
def ir_undertowlaw03_ChooseFair : Vm.Fn := ⟨[0, 1, 4, 5, 7, 10, 13], 0, 0, [.slot 2],
 .seq (.seq (.reg [⟨.mv (.c (.bool false)), none⟩] [] [] [(2, 0, none)])
 (.drop [2] []))
 (.seq (.seq (.reg [⟨.call .val n_undertowlaw03_alive [], none⟩,
   ⟨.un .not (.r 0), none⟩] [] [] [(4, 1, none)])
 (.cond (.s 4) (.seq (.seq (.reg [⟨.mv (.c (.bool false)), none⟩] [] [] [(2, 0, none)])
  (.drop [0, 1, 4] []))
  (.ret))
  (.skip)))
 (.seq (.seq (.seq (.reg [⟨.mv (.s 0), none⟩,
   ⟨.len 1 (.r 0), none⟩,
   ⟨.bin .gtr (.r 1) (.c (.int .i64 2000)), none⟩] [] [] [(5, 2, none)])
 (.drop [4] []))
 (.cond (.s 5) (.seq (.seq (.reg [⟨.call .val n_undertowlaw03_alive [], none⟩,
    ⟨.mv (.r 0), none⟩] [] [] [(2, 1, none)])
  (.drop [0, 1, 5] []))
  (.ret))
  (.skip)))
 (.seq (.seq (.reg [⟨.mv (.c (.int .i64 0)), none⟩] [] [] [(3, 0, none)])
 (.drop [5] []))
 (.seq (.seq (.reg [⟨.mv (.s 1), none⟩,
   ⟨.bin .geq (.r 0) (.c (.int .i64 1)), none⟩] [] [] [(6, 1, none)])
 (.cond (.s 6) (.seq (.reg [⟨.mv (.s 0), none⟩,
    ⟨.len 1 (.r 0), none⟩,
    ⟨.mv (.s 1), none⟩,
    ⟨.bin .quo (.r 1) (.r 2), none⟩,
    ⟨.mv (.r 3), none⟩] [] [] [(3, 4, none)])
  (.drop [6] []))
  (.skip)))
 (.seq (.seq (.reg [⟨.call .val n_undertowlaw03_alive [], none⟩,
   ⟨.mv (.r 0), none⟩,
   ⟨.mv (.s 0), some (1, true)⟩,
   ⟨.mv (.s 1), some (1, true)⟩,
   ⟨.call .val n_choose_Fair [(.r 2), (.r 3)], some (1, true)⟩,
   ⟨.mv (.s 0), some (1, true)⟩,
   ⟨.mv (.s 1), some (1, true)⟩,
   ⟨.call .val n_undertowref03_Fair [(.r 5), (.r 6)], some (1, true)⟩,
   ⟨.eqb false (.r 4) (.r 7), some (1, true)⟩,
   ⟨.pick (.r 1) (.r 8) (.c (.bool false)), none⟩,
   ⟨.mv (.r 9), none⟩,
   ⟨.mv (.s 0), some (10, true)⟩,
   ⟨.mv (.s 1), some (10, true)⟩,
   ⟨.call .val n_choose_Windows [(.r 11), (.r 12)], some (10, true)⟩,
   ⟨.mv (.s 3), some (10, true)⟩,
   ⟨.bin .eql (.r 13) (.r 14), some (10, true)⟩,
   ⟨.pick (.r 10) (.r 15) (.c (.bool false)), none⟩,
   ⟨.mv (.r 16), none⟩] [] [] [(2, 17, none)])
 (.drop [0, 1, 3, 6] []))
 (.ret))))))⟩
/-- 7: undertow/undertowlaw03.ChooseJoin -/
def h7 : Vm.Hint := ⟨[0, 1, 2, 6, 7, 9, 36], [], [7], [[0], [0, 0], [0], [0, 0, 0, 0, 0, 0, 0, 0, 0, 0, 0, 0, 0, 0, 0, 0, 0, 0, 0, 0, 0, 0, 0, 0, 0, 0, 0], [0], [1], [0, 0, 2, 0], [0, 0, 2, 0], [0, 0, 0, 0, 0, 0, 0, 0, 0, 0, 0, 0, 0, 0, 0, 0, 0]], [([3], []), ([], []), ([0, 1, 2, 5], []), ([5], []), ([0, 1, 2, 6], []), ([6], []), ([], []), ([], []), ([0, 1, 2, 4], [(false, 0)])]⟩
def ir_undertowlaw03_ChooseJoin : Vm.Fn := ⟨[0, 1, 2, 6, 7, 9, 36], 0, 1, [.slot 3],
 .seq (.seq (.reg [⟨.mv (.c (.bool false)), none⟩] [] [] [(3, 0, none)])
 (.drop [3] []))
 (.seq (.seq (.reg [⟨.call .val n_undertowlaw03_alive [], none⟩,
   ⟨.un .not (.r 0), none⟩] [] [] [(5, 1, none)])
 (.cond (.s 5) (.seq (.seq (.reg [⟨.mv (.c (.bool false)), none⟩] [] [] [(3, 0, none)])
  (.drop [0, 1, 2, 5] []))
  (.ret))
  (.skip)))
 (.seq (.seq (.seq (.reg [⟨.mv (.s 0), none⟩,
   ⟨.len 1 (.r 0), none⟩,
   ⟨.bin .gtr (.r 1) (.c (.int .i64 2000)), none⟩,
   ⟨.mv (.r 2), none⟩,
   ⟨.mv (.s 1), some (3, false)⟩,
   ⟨.len 1 (.r 4), some (3, false)⟩,
   ⟨.bin .gtr (.r 5) (.c (.int .i64 2000)), some (3, false)⟩,
   ⟨.pick (.r 3) (.c (.bool true)) (.r 6), none⟩,
   ⟨.mv (.r 7), none⟩,
   ⟨.mv (.s 0), some (8, false)⟩,
   ⟨.mv (.s 2), some (8, false)⟩,
   ⟨.call .val n_choose_Fair [(.r 9), (.r 10)], some (8, false)⟩,
   ⟨.un .not (.r 11), some (8, false)⟩,
   ⟨.pick (.r 8) (.c (.bool true)) (.r 12), none⟩,
   ⟨.mv (.r 13), none⟩,
   ⟨.mv (.s 1), some (14, false)⟩,
   ⟨.mv (.s 2), some (14, false)⟩,
   ⟨.call .val n_choose_Fair [(.r 15), (.r 16)], some (14, false)⟩,
   ⟨.un .not (.r 17), some (14, false)⟩,
   ⟨.pick (.r 14) (.c (.bool true)) (.r 18), none⟩,
   ⟨.mv (.r 19), none⟩,
   ⟨.mv (.s 0), some (20, false)⟩,
   ⟨.len 1 (.r 21), some (20, false)⟩,
   ⟨.mv (.s 2), some (20, false)⟩,
   ⟨.bin .rem (.r 22) (.r 23), some (20, false)⟩,
   ⟨.bin .neq (.r 24) (.c (.int .i64 0)), some (20, false)⟩,
   ⟨.pick (.r 20) (.c (.bool true)) (.r 25), none⟩] [] [] [(6, 26, none)])
 (.drop [5] []))
 (.cond (.s 6) (.seq (.seq (.reg [⟨.mv (.c (.bool true)), none⟩] [] [] [(3, 0, none)])
  (.drop [0, 1, 2, 6] []))
  (.ret))
  (.skip)))
 (.seq (.seq (.reg [⟨.onil 0, none⟩] [(false, 0)] [] [(4, 0, some 0)])
 (.drop [6] []))
 (.seq (.reg [⟨.mv (.s 4), none⟩,
   ⟨.mv (.s 0), none⟩,
   ⟨.app 2 3 24 (.r 0) (.r 1), none⟩,
   ⟨.mv (.r 2), none⟩] [] [] [(4, 3, some 0)])
 (.seq (.reg [⟨.mv (.s 4), none⟩,
   ⟨.mv (.s 1), none⟩,
   ⟨.app 2 3 24 (.r 0) (.r 1), none⟩,
   ⟨.mv (.r 2), none⟩] [] [] [(4, 3, some 0)])
 (.seq (.seq (.reg [⟨.mv (.s 4), none⟩,
   ⟨.mv (.s 2), none⟩,
   ⟨.call .val n_choose_Fair [(.r 0), (.r 1)], none⟩,
   ⟨.mv (.r 2), none⟩,
   ⟨.mv (.s 4), some (3, true)⟩,
   ⟨.mv (.s 2), some (3, true)⟩,
   ⟨.call .val n_choose_Windows [(.r 4), (.r 5)], some (3, true)⟩,
   ⟨.mv (.s 0), some (3, true)⟩,
   ⟨.mv (.s 2), some (3, true)⟩,
   ⟨.call .val n_choose_Windows [(.r 7), (.r 8)], some (3, true)⟩,
   ⟨.mv (.s 1), some (3, true)⟩,
   ⟨.mv (.s 2), some (3, true)⟩,
   ⟨.call .val n_choose_Windows [(.r 10), (.r 11)], some (3, true)⟩,
   ⟨.bin .add (.r 9) (.r 12), some (3, true)⟩,
   ⟨.bin .eql (.r 6) (.r 13), some (3, true)⟩,
   ⟨.pick (.r 3) (.r 14) (.c (.bool false)), none⟩,
   ⟨.mv (.r 15), none⟩] [] [] [(3, 16, none)])
 (.drop [0, 1, 2, 4] [(false, 0)]))
 (.ret)))))))⟩
/-- 8: undertow/undertowlaw03.alive -/
def h8 : Vm.Hint := ⟨[0, 1, 2], [], [], [[0], [0, 0, 0, 0, 0, 0], [0, 0, 0, 0, 0, 0, 0, 0, 0, 0, 0, 0, 0, 0, 0, 0, 0, 0, 0, 0, 0, 0]], [([0], []), ([], []), ([1, 2], [])]⟩
def ir_undertowlaw03_alive : Vm.Fn := ⟨[0, 1, 2], 0, 0, [.slot 0],
 .seq (.seq (.reg [⟨.mv (.c (.bool false)), none⟩] [] [] [(0, 0, none)])
 (.drop [0] []))
 (.seq (.reg [⟨.call .val n_choose_Of [(.c (.int .i64 3)), (.c (.flt 4617202927970916762))], none⟩,
   ⟨.mv (.r 0), none⟩,
   ⟨.ext (.r 1) 0, none⟩,
   ⟨.ext (.r 1) 1, none⟩,
   ⟨.mv (.r 2), none⟩,
   ⟨.mv (.r 3), none⟩] [] [] [(1, 4, none), (2, 5, none)])
 (.seq (.seq (.reg [⟨.mv (.s 2), none⟩,
   ⟨.mv (.r 0), none⟩,
   ⟨.mv (.s 1), some (1, true)⟩,
   ⟨.bin .eql (.r 2) (.c (.int .i64 1)), some (1, true)⟩,
   ⟨.pick (.r 1) (.r 3) (.c (.bool false)), none⟩,
   ⟨.mv (.r 4), none⟩,
   ⟨.call .val n_choose_Oldest [(.c (.flt 4602678819172646912))], some (5, true)⟩,
   ⟨.pick (.r 5) (.r 6) (.c (.bool false)), none⟩,
   ⟨.mv (.r 7), none⟩,
   ⟨.call .val n_choose_Oldest [(.c (.flt 4607182418800017408))], some (8, true)⟩,
   ⟨.un .not (.r 9), some (8, true)⟩,
   ⟨.pick (.r 8) (.r 10) (.c (.bool false)), none⟩,
   ⟨.mv (.r 11), none⟩,
   ⟨.build [.int .i64 0, .int .i64 0, .flt 0] [(0, 1, (.c (.int .i64 2))), (1, 1, (.c (.int .i64 5)))], some (12, true)⟩,
   ⟨.call .val n_choose_Right [(.r 13)], some (12, true)⟩,
   ⟨.pick (.r 12) (.r 14) (.c (.bool false)), none⟩,
   ⟨.mv (.r 15), none⟩,
   ⟨.mksl [.int .i64 0, .int .i64 0, .flt 0] 24 (.c (.int .i64 7)) (.c (.int .i64 7)), some (16, true)⟩,
   ⟨.call .val n_choose_Windows [(.r 17), (.c (.int .i64 3))], some (16, true)⟩,
   ⟨.bin .eql (.r 18) (.c (.int .i64 2)), some (16, true)⟩,
   ⟨.pick (.r 16) (.r 19) (.c (.bool false)), none⟩,
   ⟨.mv (.r 20), none⟩] [] [] [(0, 21, none)])
 (.drop [1, 2] []))
 (.ret)))⟩
/-- 9: undertow/choose.Of -/
def h9 : Vm.Hint := ⟨[0, 1, 4, 5, 6, 16, 21, 30, 37], [], [], [[0, 0], [0, 0, 0, 0, 0, 0, 0, 0, 0, 0], [0, 0], [0, 0, 0], [0, 0, 0], [0, 0, 0, 0, 0, 0, 0, 0], [0, 0], [0], [0, 0, 0, 0, 0, 0, 0], [0, 0, 0, 0, 0], [0, 0, 0]], [([2, 3], []), ([], []), ([0, 1, 5], []), ([5], []), ([], []), ([6], []), ([6], []), ([7], []), ([1, 7], []), ([0, 8], []), ([0, 4, 8], [])]⟩
def ir_choose_Of : Vm.Fn := ⟨[0, 1, 4, 5, 6, 16, 21, 30, 37], 0, 0, [.slot 2, .slot 3],
 .seq (.seq (.reg [⟨.mv (.c (.int .i64 0)), none⟩,
   ⟨.mv (.c (.bool false)), none⟩] [] [] [(2, 0, none), (3, 1, none)])
 (.drop [2, 3] []))
 (.seq (.seq (.reg [⟨.mv (.s 0), none⟩,
   ⟨.bin .lss (.r 0) (.c (.int .i64 1)), none⟩,
   ⟨.mv (.r 1), none⟩,
   ⟨.mv (.s 0), some (2, false)⟩,
   ⟨.bin .gtr (.r 3) (.c (.int .i64 1048576)), some (2, false)⟩,
   ⟨.pick (.r 2) (.c (.bool true)) (.r 4), none⟩,
   ⟨.mv (.r 5), none⟩,
   ⟨.mv (.s 1), some (6, false)⟩,
   ⟨.call .val n_math_IsNaN [(.r 7)], some (6, false)⟩,
   ⟨.pick (.r 6) (.c (.bool true)) (.r 8), none⟩] [] [] [(5, 9, none)])
 (.cond (.s 5) (.seq (.seq (.reg [⟨.mv (.c (.int .i64 0)), none⟩,
    ⟨.mv (.c (.bool false)), none⟩] [] [] [(2, 0, none), (3, 1, none)])
  (.drop [0, 1, 5] []))
  (.ret))
  (.skip)))
 (.seq (.seq (.reg [⟨.mv (.s 0), none⟩,
   ⟨.bin .sub (.r 0) (.c (.int .i64 1)), none⟩,
   ⟨.mv (.r 1), none⟩] [] [] [(4, 2, none)])
 (.drop [5] []))
 (.seq (.seq (.reg [⟨.mv (.s 1), none⟩,
   ⟨.call .val n_math_IsInf [(.r 0), (.c (.int .i64 0))], none⟩,
   ⟨.un .not (.r 1), none⟩] [] [] [(6, 2, none)])
 (.cond (.s 6) (.seq (.reg [⟨.mv (.s 1), none⟩,
    ⟨.call .val n_math_Abs [(.r 0)], none⟩,
    ⟨.call .val n_math_Floor [(.r 1)], none⟩,
    ⟨.mv (.s 0), none⟩,
    ⟨.i2f (.r 3), none⟩,
    ⟨.call .val n_math_Mod [(.r 2), (.r 4)], none⟩,
    ⟨.f2i .i64 (.r 5), none⟩,
    ⟨.mv (.r 6), none⟩] [] [] [(4, 7, none)])
  (.drop [6] []))
  (.seq (.seq (.reg [⟨.mv (.s 1), none⟩,
    ⟨.bin .lss (.r 0) (.c (.flt 0)), none⟩] [] [] [(7, 1, none)])
  (.drop [6] []))
  (.cond (.s 7) (.seq (.reg [⟨.mv (.c (.int .i64 0)), none⟩] [] [] [(4, 0, none)])
   (.drop [7] []))
   (.skip)))))
 (.seq (.seq (.seq (.reg [⟨.mv (.s 1), none⟩,
   ⟨.call .val n_math_Signbit [(.r 0)], none⟩,
   ⟨.mv (.r 1), none⟩,
   ⟨.mv (.s 1), some (2, true)⟩,
   ⟨.call .val n_math_IsInf [(.r 3), (.c (.int .i64 0))], some (2, true)⟩,
   ⟨.un .not (.r 4), some (2, true)⟩,
   ⟨.pick (.r 2) (.r 5) (.c (.bool false)), none⟩] [] [] [(8, 6, none)])
 (.drop [1, 7] []))
 (.cond (.s 8) (.seq (.reg [⟨.mv (.s 0), none⟩,
    ⟨.bin .sub (.r 0) (.c (.int .i64 1)), none⟩,
    ⟨.mv (.s 4), none⟩,
    ⟨.bin .sub (.r 1) (.r 2), none⟩,
    ⟨.mv (.r 3), none⟩] [] [] [(4, 4, none)])
  (.drop [0, 8] []))
  (.skip)))
 (.seq (.seq (.reg [⟨.mv (.s 4), none⟩,
   ⟨.mv (.r 0), none⟩,
   ⟨.mv (.c (.bool true)), none⟩] [] [] [(2, 1, none), (3, 2, none)])
 (.drop [0, 4, 8] []))
 (.ret))))))⟩
/-- 10: undertow/undertowref03.Of -/
def h10 : Vm.Hint := ⟨[0, 1, 4, 5, 6, 7, 19, 21, 25, 31], [], [], [[0, 0], [0, 0, 0], [0, 0, 0, 0, 0, 0, 0, 0, 0, 0], [0, 0], [0, 0], [0, 0, 0, 0], [0, 0], [0, 0], [0, 0, 0, 0], [0, 0, 0], [0, 0, 0, 0, 0, 0], [0, 0, 0]], [([2, 3], []), ([], []), ([], []), ([0, 1, 4, 6], []), ([6], []), ([0, 1, 4, 7], []), ([7], []), ([0, 1, 4, 8], []), ([1, 8], []), ([4], []), ([0, 5, 9], []), ([0, 5, 9], [])]⟩
def ir_undertowref03_Of : Vm.Fn := ⟨[0, 1, 4, 5, 6, 7, 19, 21, 25, 31], 0, 0, [.slot 2, .slot 3],
 .seq (.seq (.reg [⟨.mv (.c (.int .i64 0)), none⟩,
   ⟨.mv (.c (.bool false)), none⟩] [] [] [(2, 0, none), (3, 1, none)])
 (.drop [2, 3] []))
 (.seq (.reg [⟨.mv (.s 1), none⟩,
   ⟨.prim .bits (.r 0), none⟩,
   ⟨.mv (.r 1), none⟩] [] [] [(4, 2, none)])
 (.seq (.seq (.reg [⟨.mv (.s 0), none⟩,
   ⟨.bin .lss (.r 0) (.c (.int .i64 1)), none⟩,
   ⟨.mv (.r 1), none⟩,
   ⟨.mv (.s 0), some (2, false)⟩,
   ⟨.bin .gtr (.r 3) (.c (.int .i64 1048576)), some (2, false)⟩,
   ⟨.pick (.r 2) (.c (.bool true)) (.r 4), none⟩,
   ⟨.mv (.r 5), none⟩,
   ⟨.mv (.s 1), some (6, false)⟩,
   ⟨.call .val n_undertowref02_None [(.r 7)], some (6, false)⟩,
   ⟨.pick (.r 6) (.c (.bool true)) (.r 8), none⟩] [] [] [(6, 9, none)])
 (.cond (.s 6) (.seq (.seq (.reg [⟨.mv (.c (.int .i64 0)), none⟩,
    ⟨.mv (.c (.bool false)), none⟩] [] [] [(2, 0, none), (3, 1, none)])
  (.drop [0, 1, 4, 6] []))
  (.ret))
  (.skip)))
 (.seq (.seq (.seq (.reg [⟨.mv (.s 4), none⟩,
   ⟨.bin .eql (.r 0) (.c (.int .u64 9218868437227405312)), none⟩] [] [] [(7, 1, none)])
 (.drop [6] []))
 (.cond (.s 7) (.seq (.seq (.reg [⟨.mv (.s 0), none⟩,
    ⟨.bin .sub (.r 0) (.c (.int .i64 1)), none⟩,
    ⟨.mv (.r 1), none⟩,
    ⟨.mv (.c (.bool true)), none⟩] [] [] [(2, 2, none), (3, 3, none)])
  (.drop [0, 1, 4, 7] []))
  (.ret))
  (.skip)))
 (.seq (.seq (.seq (.reg [⟨.mv (.s 4), none⟩,
   ⟨.bin .eql (.r 0) (.c (.int .u64 18442240474082181120)), none⟩] [] [] [(8, 1, none)])
 (.drop [7] []))
 (.cond (.s 8) (.seq (.seq (.reg [⟨.mv (.c (.int .i64 0)), none⟩,
    ⟨.mv (.c (.bool true)), none⟩] [] [] [(2, 0, none), (3, 1, none)])
  (.drop [0, 1, 4, 8] []))
  (.ret))
  (.skip)))
 (.seq (.seq (.reg [⟨.mv (.s 1), none⟩,
   ⟨.mv (.s 0), none⟩,
   ⟨.call .val n_undertowref03_Whole [(.r 0), (.r 1)], none⟩,
   ⟨.mv (.r 2), none⟩] [] [] [(5, 3, none)])
 (.drop [1, 8] []))
 (.seq (.seq (.seq (.reg [⟨.mv (.s 4), none⟩,
   ⟨.bin .shr (.r 0) (.c (.int .u64 63)), none⟩,
   ⟨.bin .eql (.r 1) (.c (.int .u64 1)), none⟩] [] [] [(9, 2, none)])
 (.drop [4] []))
 (.cond (.s 9) (.seq (.seq (.reg [⟨.mv (.s 0), none⟩,
    ⟨.bin .sub (.r 0) (.c (.int .i64 1)), none⟩,
    ⟨.mv (.s 5), none⟩,
    ⟨.bin .sub (.r 1) (.r 2), none⟩,
    ⟨.mv (.r 3), none⟩,
    ⟨.mv (.c (.bool true)), none⟩] [] [] [(2, 4, none), (3, 5, none)])
  (.drop [0, 5, 9] []))
  (.ret))
  (.skip)))
 (.seq (.seq (.reg [⟨.mv (.s 5), none⟩,
   ⟨.mv (.r 0), none⟩,
   ⟨.mv (.c (.bool true)), none⟩] [] [] [(2, 1, none), (3, 2, none)])
 (.drop [0, 5, 9] []))
 (.ret))))))))⟩
/-- 11: undertow/choose.Oldest -/
def h11 : Vm.Hint := ⟨[0, 2], [], [], [[0], [0, 0, 0, 0, 0, 0, 0, 0, 0, 0, 0, 0, 0, 0, 0, 0]], [([1], []), ([0], [])]⟩
def ir_choose_Oldest : Vm.Fn := ⟨[0, 2], 0, 0, [.slot 1],
 .seq (.seq (.reg [⟨.mv (.c (.bool false)), none⟩] [] [] [(1, 0, none)])
 (.drop [1] []))
 (.seq (.seq (.reg [⟨.mv (.s 0), none⟩,
   ⟨.call .val n_math_IsInf [(.r 0), (.c (.int .i64 (-1)))], none⟩,
   ⟨.mv (.r 1), none⟩,
   ⟨.mv (.s 0), some (2, false)⟩,
   ⟨.bin .geq (.r 3) (.c (.flt 0)), some (2, false)⟩,
   ⟨.mv (.r 4), some (2, false)⟩,
   ⟨.mv (.s 0), some (5, true)⟩,
   ⟨.bin .lss (.r 6) (.c (.flt 4607182418800017408)), some (5, true)⟩,
   ⟨.pick (.r 5) (.r 7) (.c (.bool false)), some (2, false)⟩,
   ⟨.mv (.r 8), some (2, false)⟩,
   ⟨.mv (.s 0), some (9, true)⟩,
   ⟨.call .val n_math_Signbit [(.r 10)], some (9, true)⟩,
   ⟨.un .not (.r 11), some (9, true)⟩,
   ⟨.pick (.r 9) (.r 12) (.c (.bool false)), some (2, false)⟩,
   ⟨.pick (.r 2) (.c (.bool true)) (.r 13), none⟩,
   ⟨.mv (.r 14), none⟩] [] [] [(1, 15, none)])
 (.drop [0] []))
 (.ret))⟩
/-- 12: undertow/undertowref03.Oldest -/
def h12 : Vm.Hint := ⟨[0, 2, 3], [], [], [[0], [0, 0, 0], [0, 0, 0, 0, 0, 0, 0]], [([1], []), ([0], []), ([2], [])]⟩
def ir_undertowref03_Oldest : Vm.Fn := ⟨[0, 2, 3], 0, 0, [.slot 1],
 .seq (.seq (.reg [⟨.mv (.c (.bool false)), none⟩] [] [] [(1, 0, none)])
 (.drop [1] []))
 (.seq (.seq (.reg [⟨.mv (.s 0), none⟩,
   ⟨.prim .bits (.r 0), none⟩,
   ⟨.mv (.r 1), none⟩] [] [] [(2, 2, none)])
 (.drop [0] []))
 (.seq (.seq (.reg [⟨.mv (.s 2), none⟩,
   ⟨.bin .eql (.r 0) (.c (.int .u64 18442240474082181120)), none⟩,
   ⟨.mv (.r 1), none⟩,
   ⟨.mv (.s 2), some (2, false)⟩,
   ⟨.bin .lss (.r 3) (.c (.int .u64 4607182418800017408)), some (2, false)⟩,
   ⟨.pick (.r 2) (.c (.bool true)) (.r 4), none⟩,
   ⟨.mv (.r 5), none⟩] [] [] [(1, 6, none)])
 (.drop [2] []))
 (.ret)))⟩
/-- 13: undertow/choose.Right -/
def h13 : Vm.Hint := ⟨[0, 1, 2], [1], [], [[1, 0], [0, 0, 0, 0, 0, 0, 0, 0, 0, 0, 0, 0, 0, 0, 0, 0, 0, 0, 0]], [([0, 2], []), ([1], [(true, 0)])]⟩
def ir_choose_Right : Vm.Fn := ⟨[0, 1, 2], 1, 0, [.slot 2],
 .seq (.seq (.reg [⟨.lbox 0 3 (.s 0), none⟩,
   ⟨.mv (.c (.bool false)), none⟩] [(true, 0)] [] [(1, 0, some 1), (2, 1, none)])
 (.drop [0, 2] []))
 (.seq (.seq (.reg [⟨.off 0 (.s 1), none⟩,
   ⟨.load 0 false 1 (.r 0), none⟩,
   ⟨.bin .geq (.r 1) (.c (.int .i64 0)), none⟩,
   ⟨.mv (.r 2), none⟩,
   ⟨.off 0 (.s 1), some (3, true)⟩,
   ⟨.load 0 false 1 (.r 4), some (3, true)⟩,
   ⟨.bin .lss (.r 5) (.c (.int .i64 3)), some (3, true)⟩,
   ⟨.pick (.r 3) (.r 6) (.c (.bool false)), none⟩,
   ⟨.mv (.r 7), none⟩,
   ⟨.off 1 (.s 1), some (8, true)⟩,
   ⟨.load 0 false 1 (.r 9), some (8, true)⟩,
   ⟨.bin .geq (.r 10) (.c (.int .i64 0)), some (8, true)⟩,
   ⟨.pick (.r 8) (.r 11) (.c (.bool false)), none⟩,
   ⟨.mv (.r 12), none⟩,
   ⟨.off 1 (.s 1), some (13, true)⟩,
   ⟨.load 0 false 1 (.r 14), some (13, true)⟩,
   ⟨.bin .lss (.r 15) (.c (.int .i64 6)), some (13, true)⟩,
   ⟨.pick (.r 13) (.r 16) (.c (.bool false)), none⟩,
   ⟨.mv (.r 17), none⟩] [] [] [(2, 18, none)])
 (.drop [1] [(true, 0)]))
 (.ret))⟩
/-- 14: undertow/undertowref03.Right -/
def h14 : Vm.Hint := ⟨[0, 1, 2], [1], [], [[1, 0], [0, 0, 0, 0, 0, 0, 0, 0, 0, 0, 0, 0, 0, 0, 0, 0, 0, 0, 0]], [([0, 2], []), ([1], [(true, 0)])]⟩
def ir_undertowref03_Right : Vm.Fn := ⟨[0, 1, 2], 1, 0, [.slot 2],
 .seq (.seq (.reg [⟨.lbox 0 3 (.s 0), none⟩,
   ⟨.mv (.c (.bool false)), none⟩] [(true, 0)] [] [(1, 0, some 1), (2, 1, none)])
 (.drop [0, 2] []))
 (.seq (.seq (.reg [⟨.off 0 (.s 1), none⟩,
   ⟨.load 0 false 1 (.r 0), none⟩,
   ⟨.bin .geq (.r 1) (.c (.int .i64 0)), none⟩,
   ⟨.mv (.r 2), none⟩,
   ⟨.off 0 (.s 1), some (3, true)⟩,
   ⟨.load 0 false 1 (.r 4), some (3, true)⟩,
   ⟨.bin .leq (.r 5) (.c (.int .i64 2)), some (3, true)⟩,
   ⟨.pick (.r 3) (.r 6) (.c (.bool false)), none⟩,
   ⟨.mv (.r 7), none⟩,
   ⟨.off 1 (.s 1), some (8, true)⟩,
   ⟨.load 0 false 1 (.r 9), some (8, true)⟩,
   ⟨.bin .geq (.r 10) (.c (.int .i64 0)), some (8, true)⟩,
   ⟨.pick (.r 8) (.r 11) (.c (.bool false)), none⟩,
   ⟨.mv (.r 12), none⟩,
   ⟨.off 1 (.s 1), some (13, true)⟩,
   ⟨.load 0 false 1 (.r 14), some (13, true)⟩,
   ⟨.bin .leq (.r 15) (.c (.int .i64 5)), some (13, true)⟩,
   ⟨.pick (.r 13) (.r 16) (.c (.bool false)), none⟩,
   ⟨.mv (.r 17), none⟩] [] [] [(2, 18, none)])
 (.drop [1] [(true, 0)]))
 (.ret))⟩
/-- 15: undertow/undertowref02.None -/
def h15 : Vm.Hint := ⟨[0, 2, 3], [], [], [[0], [0, 0, 0, 0], [0, 0, 0]], []⟩
def ir_undertowref02_None : Vm.Fn := ⟨[0, 2, 3], 0, 0, [.slot 1],
 .seq (.reg [⟨.mv (.c (.bool false)), none⟩] [] [] [(1, 0, none)])
 (.seq (.reg [⟨.mv (.s 0), none⟩,
   ⟨.prim .bits (.r 0), none⟩,
   ⟨.bin .andNot (.r 1) (.c (.int .u64 9223372036854775808)), none⟩,
   ⟨.mv (.r 2), none⟩] [] [] [(2, 3, none)])
 (.seq (.reg [⟨.mv (.s 2), none⟩,
   ⟨.bin .gtr (.r 0) (.c (.int .u64 9218868437227405312)), none⟩,
   ⟨.mv (.r 1), none⟩] [] [] [(1, 2, none)])
 (.ret)))⟩
/-- 16: undertow/choose.Fair -/
def h16 : Vm.Hint := ⟨[0, 1, 4, 7, 8, 9, 14], [], [], [[0], [0, 0, 0, 0], [0], [0, 0, 0, 0, 0], [0], [0, 0, 0, 0], [0, 0], [0, 0, 0]], [([2], []), ([], []), ([], []), ([5], []), ([0, 1, 3, 4, 6], []), ([6], []), ([], []), ([0, 1, 3, 4, 5], [])]⟩
def ir_choose_Fairl0 : C :=
 .seq (.reg [⟨.bin .lss (.s 4) (.s 3), none⟩] [] [] [(5, 0, none)])
 (.seq (.cond (.s 5) (.skip)
  (.exit 0))
 (.seq (.block 1 (.seq (.seq (.seq (.reg [⟨.mv (.s 0), none⟩,
    ⟨.mv (.s 1), none⟩,
    ⟨.slc 3 (.r 0) none (some (.r 1)) none, none⟩,
    ⟨.call .val n_choose_whole [(.r 2)], none⟩,
    ⟨.un .not (.r 3), none⟩] [] [] [(6, 4, none)])
  (.drop [5] []))
  (.cond (.s 6) (.seq (.seq (.reg [⟨.mv (.c (.bool false)), none⟩] [] [] [(2, 0, none)])
   (.drop [0, 1, 3, 4, 6] []))
   (.ret))
   (.skip)))
  (.seq (.reg [⟨.mv (.s 0), none⟩,
    ⟨.mv (.s 1), none⟩,
    ⟨.slc 3 (.r 0) (some (.r 1)) none none, none⟩,
    ⟨.mv (.r 2), none⟩] [] [] [(0, 3, none)])
  (.drop [6] []))))
 (.reg [⟨.bin .add (.s 4) (.c (.int .i64 1)), none⟩,
   ⟨.mv (.r 0), none⟩] [] [] [(4, 1, none)])))
def ir_choose_Fair : Vm.Fn := ⟨[0, 1, 4, 7, 8, 9, 14], 0, 0, [.slot 2],
 .seq (.seq (.reg [⟨.mv (.c (.bool false)), none⟩] [] [] [(2, 0, none)])
 (.drop [2] []))
 (.seq (.seq (.reg [⟨.mv (.s 0), none⟩,
   ⟨.mv (.s 1), none⟩,
   ⟨.call .val n_choose_Windows [(.r 0), (.r 1)], none⟩,
   ⟨.mv (.c (.int .i64 0)), none⟩] [] [] [(3, 2, none), (4, 3, none)])
 (.block 0 (.loop ir_choose_Fairl0)))
 (.seq (.seq (.reg [⟨.mv (.s 1), none⟩,
   ⟨.bin .geq (.r 0) (.c (.int .i64 1)), none⟩,
   ⟨.mv (.r 1), none⟩] [] [] [(2, 2, none)])
 (.drop [0, 1, 3, 4, 5] []))
 (.ret)))⟩
/-- 17: undertow/undertowref03.Fair -/
def h17 : Vm.Hint := ⟨[0, 1, 4, 5, 6, 7, 8, 9, 10, 12, 18, 22, 26, 31, 61], [10], [], [[0], [0, 0], [0], [0], [0, 0, 0, 0, 0, 0], [0, 0, 0], [0], [0, 0], [0, 0, 0], [0], [0, 0], [0, 0, 0], [0], [0], [0, 0, 0], [0, 0, 0], [0, 0, 0, 0, 0, 0, 0, 0, 1, 0], [0, 0, 0, 0, 0, 0, 0, 0, 0, 0, 0, 0, 0, 0, 0, 0, 0, 0, 0], [0, 0], [0], [0]], [([2], []), ([], []), ([0, 1, 9], []), ([9], []), ([], []), ([4, 11], []), ([10], []), ([], []), ([5, 12], []), ([11], []), ([], []), ([14], []), ([12], []), ([], []), ([], []), ([], []), ([13], []), ([8], [(true, 0)]), ([6, 7, 13], []), ([0, 1, 3, 4, 5, 14], []), ([0, 1, 3, 10], [])]⟩
def ir_undertowref03_Fairl0 : C :=
 .seq (.seq (.reg [⟨.mv (.s 7), none⟩,
   ⟨.mv (.s 1), none⟩,
   ⟨.bin .lss (.r 0) (.r 1), none⟩] [] [] [(13, 2, none)])
 (.cond (.s 13) (.skip)
  (.exit 6)))
 (.seq (.block 7 (.seq (.seq (.reg [⟨.mv (.s 0), none⟩,
    ⟨.mv (.s 3), none⟩,
    ⟨.mv (.s 1), none⟩,
    ⟨.bin .mul (.r 1) (.r 2), none⟩,
    ⟨.mv (.s 7), none⟩,
    ⟨.bin .add (.r 3) (.r 4), none⟩,
    ⟨.iaS 3 (.r 0) (.r 5), none⟩,
    ⟨.load 0 true 3 (.r 6), none⟩,
    ⟨.lalloc 0 [.int .i64 0, .int .i64 0, .flt 0], none⟩,
    ⟨.store 0 3 (.r 8) (.r 7), none⟩] [(true, 0)] [] [(8, 8, some 1)])
  (.drop [13] []))
  (.seq (.reg [⟨.mv (.s 6), none⟩,
    ⟨.mv (.r 0), none⟩,
    ⟨.off 0 (.s 8), some (1, false)⟩,
    ⟨.load 0 false 1 (.r 2), some (1, false)⟩,
    ⟨.mv (.s 4), some (1, false)⟩,
    ⟨.bin .eql (.r 3) (.r 4), some (1, false)⟩,
    ⟨.mv (.r 5), some (1, false)⟩,
    ⟨.off 1 (.s 8), some (6, true)⟩,
    ⟨.load 0 false 1 (.r 7), some (6, true)⟩,
    ⟨.mv (.s 5), some (6, true)⟩,
    ⟨.bin .eql (.r 8) (.r 9), some (6, true)⟩,
    ⟨.pick (.r 6) (.r 10) (.c (.bool false)), some (1, false)⟩,
    ⟨.mv (.r 11), some (1, false)⟩,
    ⟨.off 2 (.s 8), some (12, true)⟩,
    ⟨.load 0 false 1 (.r 13), some (12, true)⟩,
    ⟨.call .val n_undertowref03_Oldest [(.r 14)], some (12, true)⟩,
    ⟨.pick (.r 12) (.r 15) (.c (.bool false)), some (1, false)⟩,
    ⟨.pick (.r 1) (.c (.bool true)) (.r 16), none⟩,
    ⟨.mv (.r 17), none⟩] [] [] [(6, 18, none)])
  (.drop [8] [(true, 0)]))))
 (.reg [⟨.mv (.s 7), none⟩,
   ⟨.bin .add (.r 0) (.c (.int .i64 1)), none⟩,
   ⟨.mv (.r 1), none⟩] [] [] [(7, 2, none)]))
def ir_undertowref03_Fairl1 : C :=
 .seq (.seq (.reg [⟨.mv (.s 5), none⟩,
   ⟨.bin .lss (.r 0) (.c (.int .i64 6)), none⟩] [] [] [(12, 1, none)])
 (.cond (.s 12) (.skip)
  (.exit 4)))
 (.seq (.block 5 (.seq (.seq (.reg [⟨.mv (.c (.bool false)), none⟩] [] [] [(6, 0, none)])
  (.drop [12] []))
  (.seq (.seq (.reg [⟨.mv (.c (.int .i64 0)), none⟩] [] [] [(7, 0, none)])
  (.block 6 (.loop ir_undertowref03_Fairl0)))
  (.seq (.seq (.reg [⟨.mv (.s 6), none⟩,
    ⟨.un .not (.r 0), none⟩] [] [] [(14, 1, none)])
  (.drop [6, 7, 13] []))
  (.cond (.s 14) (.seq (.seq (.reg [⟨.mv (.c (.bool false)), none⟩] [] [] [(2, 0, none)])
   (.drop [0, 1, 3, 4, 5, 14] []))
   (.ret))
   (.skip))))))
 (.seq (.reg [⟨.mv (.s 5), none⟩,
   ⟨.bin .add (.r 0) (.c (.int .i64 1)), none⟩,
   ⟨.mv (.r 1), none⟩] [] [] [(5, 2, none)])
 (.drop [14] [])))
def ir_undertowref03_Fairl2 : C :=
 .seq (.seq (.reg [⟨.mv (.s 4), none⟩,
   ⟨.bin .lss (.r 0) (.c (.int .i64 3)), none⟩] [] [] [(11, 1, none)])
 (.cond (.s 11) (.skip)
  (.exit 2)))
 (.seq (.block 3 (.seq (.seq (.reg [⟨.mv (.c (.int .i64 0)), none⟩] [] [] [(5, 0, none)])
  (.drop [11] []))
  (.block 4 (.loop ir_undertowref03_Fairl1))))
 (.seq (.reg [⟨.mv (.s 4), none⟩,
   ⟨.bin .add (.r 0) (.c (.int .i64 1)), none⟩,
   ⟨.mv (.r 1), none⟩] [] [] [(4, 2, none)])
 (.drop [5, 12] [])))
def ir_undertowref03_Fairl3 : C :=
 .seq (.seq (.reg [⟨.mv (.s 3), none⟩,
   ⟨.mv (.s 0), none⟩,
   ⟨.len 1 (.r 1), none⟩,
   ⟨.mv (.s 1), none⟩,
   ⟨.bin .quo (.r 2) (.r 3), none⟩,
   ⟨.bin .lss (.r 0) (.r 4), none⟩] [] [] [(10, 5, none)])
 (.cond (.s 10) (.skip)
  (.exit 0)))
 (.seq (.block 1 (.seq (.seq (.reg [⟨.mv (.c (.int .i64 0)), none⟩] [] [] [(4, 0, none)])
  (.drop [10] []))
  (.block 2 (.loop ir_undertowref03_Fairl2))))
 (.seq (.reg [⟨.mv (.s 3), none⟩,
   ⟨.bin .add (.r 0) (.c (.int .i64 1)), none⟩,
   ⟨.mv (.r 1), none⟩] [] [] [(3, 2, none)])
 (.drop [4, 11] [])))
def ir_undertowref03_Fair : Vm.Fn := ⟨[0, 1, 4, 5, 6, 7, 8, 9, 10, 12, 18, 22, 26, 31, 61], 1, 0, [.slot 2],
 .seq (.seq (.reg [⟨.mv (.c (.bool false)), none⟩] [] [] [(2, 0, none)])
 (.drop [2] []))
 (.seq (.seq (.reg [⟨.mv (.s 1), none⟩,
   ⟨.bin .lss (.r 0) (.c (.int .i64 1)), none⟩] [] [] [(9, 1, none)])
 (.cond (.s 9) (.seq (.seq (.reg [⟨.mv (.c (.bool false)), none⟩] [] [] [(2, 0, none)])
  (.drop [0, 1, 9] []))
  (.ret))
  (.skip)))
 (.seq (.seq (.seq (.reg [⟨.mv (.c (.int .i64 0)), none⟩] [] [] [(3, 0, none)])
 (.drop [9] []))
 (.block 0 (.loop ir_undertowref03_Fairl3)))
 (.seq (.seq (.reg [⟨.mv (.c (.bool true)), none⟩] [] [] [(2, 0, none)])
 (.drop [0, 1, 3, 10] []))
 (.ret))))⟩
/-- 18: undertow/choose.Windows -/
def h18 : Vm.Hint := ⟨[0, 1, 4, 6], [], [], [[0], [0, 0], [0], [0, 0, 0, 0, 0]], [([2], []), ([], []), ([0, 1, 3], []), ([0, 1, 3], [])]⟩
def ir_choose_Windows : Vm.Fn := ⟨[0, 1, 4, 6], 0, 0, [.slot 2],
 .seq (.seq (.reg [⟨.mv (.c (.int .i64 0)), none⟩] [] [] [(2, 0, none)])
 (.drop [2] []))
 (.seq (.seq (.reg [⟨.mv (.s 1), none⟩,
   ⟨.bin .lss (.r 0) (.c (.int .i64 1)), none⟩] [] [] [(3, 1, none)])
 (.cond (.s 3) (.seq (.seq (.reg [⟨.mv (.c (.int .i64 0)), none⟩] [] [] [(2, 0, none)])
  (.drop [0, 1, 3] []))
  (.ret))
  (.skip)))
 (.seq (.seq (.reg [⟨.mv (.s 0), none⟩,
   ⟨.len 1 (.r 0), none⟩,
   ⟨.mv (.s 1), none⟩,
   ⟨.bin .quo (.r 1) (.r 2), none⟩,
   ⟨.mv (.r 3), none⟩] [] [] [(2, 4, none)])
 (.drop [0, 1, 3] []))
 (.ret)))⟩
/-- 19: math.IsNaN -/
def h19 : Vm.Hint := ⟨[0, 2], [], [], [[0], [0, 0, 0, 0]], [([1], []), ([0], [])]⟩
def ir_math_IsNaN : Vm.Fn := ⟨[0, 2], 0, 0, [.slot 1],
 .seq (.seq (.reg [⟨.mv (.c (.bool false)), none⟩] [] [] [(1, 0, none)])
 (.drop [1] []))
 (.seq (.seq (.reg [⟨.mv (.s 0), none⟩,
   ⟨.mv (.s 0), none⟩,
   ⟨.bin .neq (.r 0) (.r 1), none⟩,
   ⟨.mv (.r 2), none⟩] [] [] [(1, 3, none)])
 (.drop [0] []))
 (.ret))⟩
/-- 20: math.IsInf -/
def h20 : Vm.Hint := ⟨[0, 1, 4, 6, 10], [], [], [[0], [0, 0], [0, 0, 0], [0, 0], [0, 0, 0], [0, 0, 0]], [([2], []), ([], []), ([1, 3], []), ([1, 3], []), ([4], []), ([0, 4], [])]⟩
def ir_math_IsInf : Vm.Fn := ⟨[0, 1, 4, 6, 10], 0, 0, [.slot 2],
 .seq (.seq (.reg [⟨.mv (.c (.bool false)), none⟩] [] [] [(2, 0, none)])
 (.drop [2] []))
 (.seq (.seq (.reg [⟨.mv (.s 1), none⟩,
   ⟨.bin .eql (.r 0) (.c (.int .i64 0)), none⟩] [] [] [(3, 1, none)])
 (.cond (.s 3) (.seq (.reg [⟨.mv (.s 0), none⟩,
    ⟨.call .val n_math_Abs [(.r 0)], none⟩,
    ⟨.mv (.r 1), none⟩] [] [] [(0, 2, none)])
  (.drop [1, 3] []))
  (.seq (.seq (.reg [⟨.mv (.s 1), none⟩,
    ⟨.bin .lss (.r 0) (.c (.int .i64 0)), none⟩] [] [] [(4, 1, none)])
  (.drop [1, 3] []))
  (.cond (.s 4) (.seq (.reg [⟨.mv (.s 0), none⟩,
     ⟨.un .neg (.r 0), none⟩,
     ⟨.mv (.r 1), none⟩] [] [] [(0, 2, none)])
   (.drop [4] []))
   (.skip)))))
 (.seq (.seq (.reg [⟨.mv (.s 0), none⟩,
   ⟨.bin .gtr (.r 0) (.c (.flt 9218868437227405311)), none⟩,
   ⟨.mv (.r 1), none⟩] [] [] [(2, 2, none)])
 (.drop [0, 4] []))
 (.ret)))⟩
/-- 21: math.Mod -/
def h21 : Vm.Hint := ⟨[0, 1, 4], [], [], [[0], [0, 0, 0, 0], [0, 0, 0, 0]], [([2], []), ([0, 1], []), ([0, 1], [])]⟩
def ir_math_Mod : Vm.Fn := ⟨[0, 1, 4], 0, 0, [.slot 2],
 .seq (.seq (.reg [⟨.mv (.c (.flt 0)), none⟩] [] [] [(2, 0, none)])
 (.drop [2] []))
 (.seq (.cond (.c (.bool false)) (.seq (.seq (.reg [⟨.mv (.s 0), none⟩,
    ⟨.mv (.s 1), none⟩,
    ⟨.call .val n_math_archMod [(.r 0), (.r 1)], none⟩,
    ⟨.mv (.r 2), none⟩] [] [] [(2, 3, none)])
  (.drop [0, 1] []))
  (.ret))
  (.skip))
 (.seq (.seq (.reg [⟨.mv (.s 0), none⟩,
   ⟨.mv (.s 1), none⟩,
   ⟨.call .val n_math_mod [(.r 0), (.r 1)], none⟩,
   ⟨.mv (.r 2), none⟩] [] [] [(2, 3, none)])
 (.drop [0, 1] []))
 (.ret)))⟩
/-- 22: math.Floor -/
def h22 : Vm.Hint := ⟨[0, 2], [], [], [[0], [0, 0, 0], [0, 0, 0]], [([1], []), ([0], []), ([0], [])]⟩
def ir_math_Floor : Vm.Fn := ⟨[0, 2], 0, 0, [.slot 1],
 .seq (.seq (.reg [⟨.mv (.c (.flt 0)), none⟩] [] [] [(1, 0, none)])
 (.drop [1] []))
 (.seq (.cond (.c (.bool true)) (.seq (.seq (.reg [⟨.mv (.s 0), none⟩,
    ⟨.prim .floor (.r 0), none⟩,
    ⟨.mv (.r 1), none⟩] [] [] [(1, 2, none)])
  (.drop [0] []))
  (.ret))
  (.skip))
 (.seq (.seq (.reg [⟨.mv (.s 0), none⟩,
   ⟨.call .val n_math_floor [(.r 0)], none⟩,
   ⟨.mv (.r 1), none⟩] [] [] [(1, 2, none)])
 (.drop [0] []))
 (.ret)))⟩
/-- 23: math.Abs -/
def h23 : Vm.Hint := ⟨[0, 2], [], [], [[0], [0, 0, 0, 0, 0]], [([1], []), ([0], [])]⟩
def ir_math_Abs : Vm.Fn := ⟨[0, 2], 0, 0, [.slot 1],
 .seq (.seq (.reg [⟨.mv (.c (.flt 0)), none⟩] [] [] [(1, 0, none)])
 (.drop [1] []))
 (.seq (.seq (.reg [⟨.mv (.s 0), none⟩,
   ⟨.prim .bits (.r 0), none⟩,
   ⟨.bin .andNot (.r 1) (.c (.int .u64 9223372036854775808)), none⟩,
   ⟨.prim .frombits (.r 2), none⟩,
   ⟨.mv (.r 3), none⟩] [] [] [(1, 4, none)])
 (.drop [0] []))
 (.ret))⟩
/-- 24: math.Signbit -/
def h24 : Vm.Hint := ⟨[0, 2], [], [], [[0], [0, 0, 0, 0, 0]], [([1], []), ([0], [])]⟩
def ir_math_Signbit : Vm.Fn := ⟨[0, 2], 0, 0, [.slot 1],
 .seq (.seq (.reg [⟨.mv (.c (.bool false)), none⟩] [] [] [(1, 0, none)])
 (.drop [1] []))
 (.seq (.seq (.reg [⟨.mv (.s 0), none⟩,
   ⟨.prim .bits (.r 0), none⟩,
   ⟨.i2i .i64 (.r 1), none⟩,
   ⟨.bin .lss (.r 2) (.c (.int .i64 0)), none⟩,
   ⟨.mv (.r 3), none⟩] [] [] [(1, 4, none)])
 (.drop [0] []))
 (.ret))⟩
/-- 26: undertow/undertowref03.Whole -/
def h26 : Vm.Hint := ⟨[0, 1, 4, 5, 6, 7, 8, 9, 18, 23, 39], [], [], [[0], [0, 0, 0], [0, 0, 0, 0, 0, 0], [0, 0], [0], [0, 0, 0, 0], [0, 0], [0, 0, 0, 0, 0, 0, 0, 0, 0, 0], [0, 0, 0, 0, 0], [0], [0, 0, 0], [0, 0, 0], [0, 0, 0, 0, 0, 0], [0, 0, 0]], [([2], []), ([0], []), ([], []), ([], []), ([1, 3, 4, 8], []), ([3, 8], []), ([], []), ([1, 4, 5, 9], []), ([5, 9], []), ([], []), ([], []), ([], []), ([10], []), ([1, 4, 6, 7, 10], [])]⟩
def ir_undertowref03_Wholel0 : C :=
 .seq (.seq (.reg [⟨.mv (.s 7), none⟩,
   ⟨.mv (.s 4), none⟩,
   ⟨.bin .lss (.r 0) (.r 1), none⟩] [] [] [(10, 2, none)])
 (.cond (.s 10) (.skip)
  (.exit 0)))
 (.seq (.block 1 (.seq (.reg [⟨.mv (.s 6), none⟩,
    ⟨.bin .mul (.c (.int .u64 2)) (.r 0), none⟩,
    ⟨.mv (.s 1), none⟩,
    ⟨.i2i .u64 (.r 2), none⟩,
    ⟨.bin .rem (.r 1) (.r 3), none⟩,
    ⟨.mv (.r 4), none⟩] [] [] [(6, 5, none)])
  (.drop [10] [])))
 (.reg [⟨.mv (.s 7), none⟩,
   ⟨.bin .add (.r 0) (.c (.int .i64 1)), none⟩,
   ⟨.mv (.r 1), none⟩] [] [] [(7, 2, none)]))
def ir_undertowref03_Whole : Vm.Fn := ⟨[0, 1, 4, 5, 6, 7, 8, 9, 18, 23, 39], 0, 0, [.slot 2],
 .seq (.seq (.reg [⟨.mv (.c (.int .i64 0)), none⟩] [] [] [(2, 0, none)])
 (.drop [2] []))
 (.seq (.seq (.reg [⟨.mv (.s 0), none⟩,
   ⟨.prim .bits (.r 0), none⟩,
   ⟨.mv (.r 1), none⟩] [] [] [(3, 2, none)])
 (.drop [0] []))
 (.seq (.reg [⟨.mv (.s 3), none⟩,
   ⟨.bin .shr (.r 0) (.c (.int .u64 52)), none⟩,
   ⟨.bin .and (.r 1) (.c (.int .u64 2047)), none⟩,
   ⟨.i2i .i64 (.r 2), none⟩,
   ⟨.bin .sub (.r 3) (.c (.int .i64 1023)), none⟩,
   ⟨.mv (.r 4), none⟩] [] [] [(4, 5, none)])
 (.seq (.seq (.reg [⟨.mv (.s 4), none⟩,
   ⟨.bin .lss (.r 0) (.c (.int .i64 0)), none⟩] [] [] [(8, 1, none)])
 (.cond (.s 8) (.seq (.seq (.reg [⟨.mv (.c (.int .i64 0)), none⟩] [] [] [(2, 0, none)])
  (.drop [1, 3, 4, 8] []))
  (.ret))
  (.skip)))
 (.seq (.seq (.reg [⟨.mv (.s 3), none⟩,
   ⟨.bin .and (.r 0) (.c (.int .u64 4503599627370495)), none⟩,
   ⟨.bin .add (.r 1) (.c (.int .u64 4503599627370496)), none⟩,
   ⟨.mv (.r 2), none⟩] [] [] [(5, 3, none)])
 (.drop [3, 8] []))
 (.seq (.seq (.reg [⟨.mv (.s 4), none⟩,
   ⟨.bin .leq (.r 0) (.c (.int .i64 52)), none⟩] [] [] [(9, 1, none)])
 (.cond (.s 9) (.seq (.seq (.reg [⟨.mv (.s 5), none⟩,
    ⟨.mv (.s 4), none⟩,
    ⟨.bin .sub (.c (.int .i64 52)) (.r 1), none⟩,
    ⟨.i2i .u64 (.r 2), none⟩,
    ⟨.bin .shr (.r 0) (.r 3), none⟩,
    ⟨.mv (.s 1), none⟩,
    ⟨.i2i .u64 (.r 5), none⟩,
    ⟨.bin .rem (.r 4) (.r 6), none⟩,
    ⟨.i2i .i64 (.r 7), none⟩,
    ⟨.mv (.r 8), none⟩] [] [] [(2, 9, none)])
  (.drop [1, 4, 5, 9] []))
  (.ret))
  (.skip)))
 (.seq (.seq (.reg [⟨.mv (.s 5), none⟩,
   ⟨.mv (.s 1), none⟩,
   ⟨.i2i .u64 (.r 1), none⟩,
   ⟨.bin .rem (.r 0) (.r 2), none⟩,
   ⟨.mv (.r 3), none⟩] [] [] [(6, 4, none)])
 (.drop [5, 9] []))
 (.seq (.seq (.reg [⟨.mv (.c (.int .i64 52)), none⟩] [] [] [(7, 0, none)])
 (.block 0 (.loop ir_undertowref03_Wholel0)))
 (.seq (.seq (.reg [⟨.mv (.s 6), none⟩,
   ⟨.i2i .i64 (.r 0), none⟩,
   ⟨.mv (.r 1), none⟩] [] [] [(2, 2, none)])
 (.drop [1, 4, 6, 7, 10] []))
 (.ret)))))))))⟩
/-- 27: undertow/choose.whole -/
def h27 : Vm.Hint := ⟨[0, 2, 3, 4, 6, 7, 8, 10, 11, 13, 14, 15, 16, 33], [6], [], [[0], [0], [0], [0, 0], [0], [0], [0, 0], [0, 0, 0], [0], [0, 0, 1, 0], [0, 0, 0, 0, 0, 0, 0, 0, 0, 0, 0, 0, 0, 0, 0], [0, 0], [0], [0, 0], [0, 0], [0]], [([1], []), ([], []), ([], []), ([6], []), ([], []), ([], []), ([8], []), ([], []), ([], []), ([12], []), ([4], [(true, 0)]), ([13], []), ([0, 2, 3, 5, 7, 9, 10, 11, 12], []), ([3, 9, 10, 11, 13], []), ([2, 7, 8], []), ([0, 5, 6], [])]⟩
def ir_choose_wholel0 : C :=
 .seq (.reg [⟨.bin .lss (.s 11) (.s 10), none⟩] [] [] [(12, 0, none)])
 (.seq (.cond (.s 12) (.skip)
  (.exit 4))
 (.seq (.block 5 (.seq (.seq (.reg [⟨.iaS 3 (.s 9) (.s 11), none⟩,
    ⟨.load 0 true 3 (.r 0), none⟩,
    ⟨.lalloc 0 [.int .i64 0, .int .i64 0, .flt 0], none⟩,
    ⟨.store 0 3 (.r 2) (.r 1), none⟩] [(true, 0)] [] [(4, 2, some 1)])
  (.drop [12] []))
  (.seq (.seq (.reg [⟨.off 0 (.s 4), none⟩,
    ⟨.load 0 false 1 (.r 0), none⟩,
    ⟨.mv (.s 2), none⟩,
    ⟨.bin .eql (.r 1) (.r 2), none⟩,
    ⟨.mv (.r 3), none⟩,
    ⟨.off 1 (.s 4), some (4, true)⟩,
    ⟨.load 0 false 1 (.r 5), some (4, true)⟩,
    ⟨.mv (.s 3), some (4, true)⟩,
    ⟨.bin .eql (.r 6) (.r 7), some (4, true)⟩,
    ⟨.pick (.r 4) (.r 8) (.c (.bool false)), none⟩,
    ⟨.mv (.r 9), none⟩,
    ⟨.off 2 (.s 4), some (10, true)⟩,
    ⟨.load 0 false 1 (.r 11), some (10, true)⟩,
    ⟨.call .val n_choose_Oldest [(.r 12)], some (10, true)⟩,
    ⟨.pick (.r 10) (.r 13) (.c (.bool false)), none⟩] [] [] [(13, 14, none)])
  (.drop [4] [(true, 0)]))
  (.cond (.s 13) (.exit 3)
   (.skip)))))
 (.seq (.reg [⟨.bin .add (.s 11) (.c (.int .i64 1)), none⟩,
   ⟨.mv (.r 0), none⟩] [] [] [(11, 1, none)])
 (.drop [13] []))))
def ir_choose_wholel1 : C :=
 .seq (.reg [⟨.bin .lss (.s 7) (.c (.int .i64 6)), none⟩] [] [] [(8, 0, none)])
 (.seq (.cond (.s 8) (.skip)
  (.exit 2))
 (.seq (.block 3 (.seq (.seq (.reg [⟨.mv (.s 7), none⟩,
    ⟨.mv (.r 0), none⟩] [] [] [(3, 1, none)])
  (.drop [8] []))
  (.seq (.seq (.reg [⟨.mv (.s 0), none⟩,
    ⟨.len 1 (.r 0), none⟩,
    ⟨.mv (.c (.int .i64 0)), none⟩] [] [] [(9, 0, none), (10, 1, none), (11, 2, none)])
  (.block 4 (.loop ir_choose_wholel0)))
  (.seq (.seq (.reg [⟨.mv (.c (.bool false)), none⟩] [] [] [(1, 0, none)])
  (.drop [0, 2, 3, 5, 7, 9, 10, 11, 12] []))
  (.ret)))))
 (.seq (.reg [⟨.bin .add (.s 7) (.c (.int .i64 1)), none⟩,
   ⟨.mv (.r 0), none⟩] [] [] [(7, 1, none)])
 (.drop [3, 9, 10, 11, 13] []))))
def ir_choose_wholel2 : C :=
 .seq (.reg [⟨.bin .lss (.s 5) (.c (.int .i64 3)), none⟩] [] [] [(6, 0, none)])
 (.seq (.cond (.s 6) (.skip)
  (.exit 0))
 (.seq (.block 1 (.seq (.seq (.reg [⟨.mv (.s 5), none⟩,
    ⟨.mv (.r 0), none⟩] [] [] [(2, 1, none)])
  (.drop [6] []))
  (.seq (.reg [⟨.mv (.c (.int .i64 0)), none⟩] [] [] [(7, 0, none)])
  (.block 2 (.loop ir_choose_wholel1)))))
 (.seq (.reg [⟨.bin .add (.s 5) (.c (.int .i64 1)), none⟩,
   ⟨.mv (.r 0), none⟩] [] [] [(5, 1, none)])
 (.drop [2, 7, 8] []))))
def ir_choose_whole : Vm.Fn := ⟨[0, 2, 3, 4, 6, 7, 8, 10, 11, 13, 14, 15, 16, 33], 1, 0, [.slot 1],
 .seq (.seq (.reg [⟨.mv (.c (.bool false)), none⟩] [] [] [(1, 0, none)])
 (.drop [1] []))
 (.seq (.seq (.reg [⟨.mv (.c (.int .i64 0)), none⟩] [] [] [(5, 0, none)])
 (.block 0 (.loop ir_choose_wholel2)))
 (.seq (.seq (.reg [⟨.mv (.c (.bool true)), none⟩] [] [] [(1, 0, none)])
 (.drop [0, 5, 6] []))
 (.ret)))⟩
/-- 28: math.archMod -/
def h28 : Vm.Hint := ⟨[4], [], [], [[0], [0, 0]], [([], []), ([], [])]⟩
def ir_math_archMod : Vm.Fn := ⟨[4], 0, 0, [.slot 0],
 .seq (.reg [⟨.mv (.c (.flt 0)), none⟩] [] [] [(0, 0, none)])
 (.reg [⟨.mkif 9 (.c (.str [110, 111, 116, 32, 105, 109, 112, 108, 101, 109, 101, 110, 116, 101, 100])), none⟩,
   ⟨.bad, none⟩] [] [] [])⟩
/-- 29: math.mod -/
def h29 : Vm.Hint := ⟨[0, 1, 4, 5, 6, 7, 8, 9, 23, 34, 39, 47, 58], [], [], [[0], [0, 0, 0, 0, 0, 0, 0, 0, 0, 0, 0, 0, 0, 0], [0, 0], [0, 0, 0], [0, 0, 0, 0, 0, 0, 0], [0, 0], [0, 0], [0, 0, 0], [0, 0, 0], [0, 0, 0, 0, 0, 0, 0], [0, 0, 0], [0, 0, 0], [0, 0, 0, 0, 0, 0, 0, 0], [0, 0], [0, 0, 0], [0, 0]], [([2], []), ([], []), ([0, 1, 8], []), ([8], []), ([], []), ([], []), ([], []), ([9], []), ([9], []), ([10], []), ([6], []), ([11], []), ([7, 11], []), ([0, 1, 3, 4, 10], []), ([12], []), ([5, 12], [])]⟩
def ir_math_modl0 : C :=
 .seq (.seq (.seq (.reg [⟨.mv (.s 5), none⟩,
   ⟨.mv (.s 1), none⟩,
   ⟨.bin .geq (.r 0) (.r 1), none⟩] [] [] [(10, 2, none)])
 (.drop [9] []))
 (.cond (.s 10) (.skip)
  (.exit 0)))
 (.block 1 (.seq (.seq (.reg [⟨.mv (.s 5), none⟩,
    ⟨.call .val n_math_Frexp [(.r 0)], none⟩,
    ⟨.mv (.r 1), none⟩,
    ⟨.ext (.r 2) 0, none⟩,
    ⟨.ext (.r 2) 1, none⟩,
    ⟨.mv (.r 3), none⟩,
    ⟨.mv (.r 4), none⟩] [] [] [(6, 5, none), (7, 6, none)])
  (.drop [10] []))
  (.seq (.seq (.seq (.reg [⟨.mv (.s 6), none⟩,
    ⟨.mv (.s 3), none⟩,
    ⟨.bin .lss (.r 0) (.r 1), none⟩] [] [] [(11, 2, none)])
  (.drop [6] []))
  (.cond (.s 11) (.seq (.reg [⟨.mv (.s 7), none⟩,
     ⟨.bin .sub (.r 0) (.c (.int .i64 1)), none⟩,
     ⟨.mv (.r 1), none⟩] [] [] [(7, 2, none)])
   (.drop [11] []))
   (.skip)))
  (.seq (.reg [⟨.mv (.s 5), none⟩,
    ⟨.mv (.s 1), none⟩,
    ⟨.mv (.s 7), none⟩,
    ⟨.mv (.s 4), none⟩,
    ⟨.bin .sub (.r 2) (.r 3), none⟩,
    ⟨.call .val n_math_Ldexp [(.r 1), (.r 4)], none⟩,
    ⟨.bin .sub (.r 0) (.r 5), none⟩,
    ⟨.mv (.r 6), none⟩] [] [] [(5, 7, none)])
  (.drop [7, 11] [])))))
def ir_math_mod : Vm.Fn := ⟨[0, 1, 4, 5, 6, 7, 8, 9, 23, 34, 39, 47, 58], 0, 0, [.slot 2],
 .seq (.seq (.reg [⟨.mv (.c (.flt 0)), none⟩] [] [] [(2, 0, none)])
 (.drop [2] []))
 (.seq (.seq (.reg [⟨.mv (.s 1), none⟩,
   ⟨.bin .eql (.r 0) (.c (.flt 0)), none⟩,
   ⟨.mv (.r 1), none⟩,
   ⟨.mv (.s 0), some (2, false)⟩,
   ⟨.call .val n_math_IsInf [(.r 3), (.c (.int .i64 0))], some (2, false)⟩,
   ⟨.pick (.r 2) (.c (.bool true)) (.r 4), none⟩,
   ⟨.mv (.r 5), none⟩,
   ⟨.mv (.s 0), some (6, false)⟩,
   ⟨.call .val n_math_IsNaN [(.r 7)], some (6, false)⟩,
   ⟨.pick (.r 6) (.c (.bool true)) (.r 8), none⟩,
   ⟨.mv (.r 9), none⟩,
   ⟨.mv (.s 1), some (10, false)⟩,
   ⟨.call .val n_math_IsNaN [(.r 11)], some (10, false)⟩,
   ⟨.pick (.r 10) (.c (.bool true)) (.r 12), none⟩] [] [] [(8, 13, none)])
 (.cond (.s 8) (.seq (.seq (.reg [⟨.call .val n_math_NaN [], none⟩,
    ⟨.mv (.r 0), none⟩] [] [] [(2, 1, none)])
  (.drop [0, 1, 8] []))
  (.ret))
  (.skip)))
 (.seq (.seq (.reg [⟨.mv (.s 1), none⟩,
   ⟨.call .val n_math_Abs [(.r 0)], none⟩,
   ⟨.mv (.r 1), none⟩] [] [] [(1, 2, none)])
 (.drop [8] []))
 (.seq (.reg [⟨.mv (.s 1), none⟩,
   ⟨.call .val n_math_Frexp [(.r 0)], none⟩,
   ⟨.mv (.r 1), none⟩,
   ⟨.ext (.r 2) 0, none⟩,
   ⟨.ext (.r 2) 1, none⟩,
   ⟨.mv (.r 3), none⟩,
   ⟨.mv (.r 4), none⟩] [] [] [(3, 5, none), (4, 6, none)])
 (.seq (.reg [⟨.mv (.s 0), none⟩,
   ⟨.mv (.r 0), none⟩] [] [] [(5, 1, none)])
 (.seq (.seq (.reg [⟨.mv (.s 0), none⟩,
   ⟨.bin .lss (.r 0) (.c (.flt 0)), none⟩] [] [] [(9, 1, none)])
 (.cond (.s 9) (.seq (.reg [⟨.mv (.s 0), none⟩,
    ⟨.un .neg (.r 0), none⟩,
    ⟨.mv (.r 1), none⟩] [] [] [(5, 2, none)])
  (.drop [9] []))
  (.skip)))
 (.seq (.block 0 (.loop ir_math_modl0))
 (.seq (.seq (.seq (.reg [⟨.mv (.s 0), none⟩,
   ⟨.bin .lss (.r 0) (.c (.flt 0)), none⟩] [] [] [(12, 1, none)])
 (.drop [0, 1, 3, 4, 10] []))
 (.cond (.s 12) (.seq (.reg [⟨.mv (.s 5), none⟩,
    ⟨.un .neg (.r 0), none⟩,
    ⟨.mv (.r 1), none⟩] [] [] [(5, 2, none)])
  (.drop [12] []))
  (.skip)))
 (.seq (.seq (.reg [⟨.mv (.s 5), none⟩,
   ⟨.mv (.r 0), none⟩] [] [] [(2, 1, none)])
 (.drop [5, 12] []))
 (.ret)))))))))⟩
/-- 31: math.floor -/
def h31 : Vm.Hint := ⟨[0, 2, 3, 4, 5, 16, 19, 27], [], [], [[0], [0, 0, 0, 0, 0, 0, 0, 0, 0, 0], [0, 0], [0, 0], [0, 0, 0, 0, 0, 0, 0, 0], [0, 0], [0, 0, 0], [0, 0, 0], [0, 0, 0, 0, 0, 0, 0], [0, 0]], [([1], []), ([], []), ([0, 5], []), ([5], []), ([0, 6], []), ([3], []), ([7], []), ([2, 7], []), ([0, 6], []), ([4], [])]⟩
def ir_math_floor : Vm.Fn := ⟨[0, 2, 3, 4, 5, 16, 19, 27], 0, 0, [.slot 1],
 .seq (.seq (.reg [⟨.mv (.c (.flt 0)), none⟩] [] [] [(1, 0, none)])
 (.drop [1] []))
 (.seq (.seq (.reg [⟨.mv (.s 0), none⟩,
   ⟨.bin .eql (.r 0) (.c (.flt 0)), none⟩,
   ⟨.mv (.r 1), none⟩,
   ⟨.mv (.s 0), some (2, false)⟩,
   ⟨.call .val n_math_IsNaN [(.r 3)], some (2, false)⟩,
   ⟨.pick (.r 2) (.c (.bool true)) (.r 4), none⟩,
   ⟨.mv (.r 5), none⟩,
   ⟨.mv (.s 0), some (6, false)⟩,
   ⟨.call .val n_math_IsInf [(.r 7), (.c (.int .i64 0))], some (6, false)⟩,
   ⟨.pick (.r 6) (.c (.bool true)) (.r 8), none⟩] [] [] [(5, 9, none)])
 (.cond (.s 5) (.seq (.seq (.reg [⟨.mv (.s 0), none⟩,
    ⟨.mv (.r 0), none⟩] [] [] [(1, 1, none)])
  (.drop [0, 5] []))
  (.ret))
  (.skip)))
 (.seq (.seq (.seq (.reg [⟨.mv (.s 0), none⟩,
   ⟨.bin .lss (.r 0) (.c (.flt 0)), none⟩] [] [] [(6, 1, none)])
 (.drop [5] []))
 (.cond (.s 6) (.seq (.seq (.reg [⟨.mv (.s 0), none⟩,
    ⟨.un .neg (.r 0), none⟩,
    ⟨.call .val n_math_Modf [(.r 1)], none⟩,
    ⟨.mv (.r 2), none⟩,
    ⟨.ext (.r 3) 0, none⟩,
    ⟨.ext (.r 3) 1, none⟩,
    ⟨.mv (.r 4), none⟩,
    ⟨.mv (.r 5), none⟩] [] [] [(2, 6, none), (3, 7, none)])
  (.drop [0, 6] []))
  (.seq (.seq (.seq (.reg [⟨.mv (.s 3), none⟩,
    ⟨.bin .neq (.r 0) (.c (.flt 0)), none⟩] [] [] [(7, 1, none)])
  (.drop [3] []))
  (.cond (.s 7) (.seq (.reg [⟨.mv (.s 2), none⟩,
     ⟨.bin .add (.r 0) (.c (.flt 4607182418800017408)), none⟩,
     ⟨.mv (.r 1), none⟩] [] [] [(2, 2, none)])
   (.drop [7] []))
   (.skip)))
  (.seq (.seq (.reg [⟨.mv (.s 2), none⟩,
    ⟨.un .neg (.r 0), none⟩,
    ⟨.mv (.r 1), none⟩] [] [] [(1, 2, none)])
  (.drop [2, 7] []))
  (.ret))))
  (.skip)))
 (.seq (.seq (.reg [⟨.mv (.s 0), none⟩,
   ⟨.call .val n_math_Modf [(.r 0)], none⟩,
   ⟨.mv (.r 1), none⟩,
   ⟨.ext (.r 2) 0, none⟩,
   ⟨.ext (.r 2) 1, none⟩,
   ⟨.mv (.r 3), none⟩,
   ⟨.mv (.r 4), none⟩] [] [] [(4, 5, none)])
 (.drop [0, 6] []))
 (.seq (.seq (.reg [⟨.mv (.s 4), none⟩,
   ⟨.mv (.r 0), none⟩] [] [] [(1, 1, none)])
 (.drop [4] []))
 (.ret)))))⟩
/-- 33: math.NaN -/
def h33 : Vm.Hint := ⟨[0], [], [], [[0], [0, 0]], [([0], []), ([], [])]⟩
def ir_math_NaN : Vm.Fn := ⟨[0], 0, 0, [.slot 0],
 .seq (.seq (.reg [⟨.mv (.c (.flt 0)), none⟩] [] [] [(0, 0, none)])
 (.drop [0] []))
 (.seq (.reg [⟨.prim .frombits (.c (.int .u64 9221120237041090561)), none⟩,
   ⟨.mv (.r 0), none⟩] [] [] [(0, 1, none)])
 (.ret))⟩
/-- 34: math.Frexp -/
def h34 : Vm.Hint := ⟨[0, 2, 3], [], [], [[0, 0], [0, 0, 0, 0, 0, 0], [0, 0, 0, 0, 0, 0]], [([1, 2], []), ([0], []), ([0], [])]⟩
def ir_math_Frexp : Vm.Fn := ⟨[0, 2, 3], 0, 0, [.slot 1, .slot 2],
 .seq (.seq (.reg [⟨.mv (.c (.flt 0)), none⟩,
   ⟨.mv (.c (.int .i64 0)), none⟩] [] [] [(1, 0, none), (2, 1, none)])
 (.drop [1, 2] []))
 (.seq (.cond (.c (.bool false)) (.seq (.seq (.reg [⟨.mv (.s 0), none⟩,
    ⟨.call .val n_math_archFrexp [(.r 0)], none⟩,
    ⟨.ext (.r 1) 0, none⟩,
    ⟨.ext (.r 1) 1, none⟩,
    ⟨.mv (.r 2), none⟩,
    ⟨.mv (.r 3), none⟩] [] [] [(1, 4, none), (2, 5, none)])
  (.drop [0] []))
  (.ret))
  (.skip))
 (.seq (.seq (.reg [⟨.mv (.s 0), none⟩,
   ⟨.call .val n_math_frexp [(.r 0)], none⟩,
   ⟨.ext (.r 1) 0, none⟩,
   ⟨.ext (.r 1) 1, none⟩,
   ⟨.mv (.r 2), none⟩,
   ⟨.mv (.r 3), none⟩] [] [] [(1, 4, none), (2, 5, none)])
 (.drop [0] []))
 (.ret)))⟩
/-- 35: math.Ldexp -/
def h35 : Vm.Hint := ⟨[0, 1, 4], [], [], [[0], [0, 0, 0, 0], [0, 0, 0, 0]], [([2], []), ([0, 1], []), ([0, 1], [])]⟩
def ir_math_Ldexp : Vm.Fn := ⟨[0, 1, 4], 0, 0, [.slot 2],
 .seq (.seq (.reg [⟨.mv (.c (.flt 0)), none⟩] [] [] [(2, 0, none)])
 (.drop [2] []))
 (.seq (.cond (.c (.bool false)) (.seq (.seq (.reg [⟨.mv (.s 0), none⟩,
    ⟨.mv (.s 1), none⟩,
    ⟨.call .val n_math_archLdexp [(.r 0), (.r 1)], none⟩,
    ⟨.mv (.r 2), none⟩] [] [] [(2, 3, none)])
  (.drop [0, 1] []))
  (.ret))
  (.skip))
 (.seq (.seq (.reg [⟨.mv (.s 0), none⟩,
   ⟨.mv (.s 1), none⟩,
   ⟨.call .val n_math_ldexp [(.r 0), (.r 1)], none⟩,
   ⟨.mv (.r 2), none⟩] [] [] [(2, 3, none)])
 (.drop [0, 1] []))
 (.ret)))⟩
/-- 36: math.Modf -/
def h36 : Vm.Hint := ⟨[0, 2, 3], [], [], [[0, 0], [0, 0, 0], [0, 0, 0, 0, 0, 0]], [([1, 2], []), ([], []), ([0], [])]⟩
def ir_math_Modf : Vm.Fn := ⟨[0, 2, 3], 0, 0, [.slot 1, .slot 2],
 .seq (.seq (.reg [⟨.mv (.c (.flt 0)), none⟩,
   ⟨.mv (.c (.flt 0)), none⟩] [] [] [(1, 0, none), (2, 1, none)])
 (.drop [1, 2] []))
 (.seq (.reg [⟨.mv (.s 0), none⟩,
   ⟨.call .val n_math_Trunc [(.r 0)], none⟩,
   ⟨.mv (.r 1), none⟩] [] [] [(1, 2, none)])
 (.seq (.seq (.reg [⟨.mv (.s 0), none⟩,
   ⟨.mv (.s 1), none⟩,
   ⟨.bin .sub (.r 0) (.r 1), none⟩,
   ⟨.mv (.s 0), none⟩,
   ⟨.call .val n_math_Copysign [(.r 2), (.r 3)], none⟩,
   ⟨.mv (.r 4), none⟩] [] [] [(2, 5, none)])
 (.drop [0] []))
 (.ret)))⟩
/-- 37: math.archFrexp -/
def h37 : Vm.Hint := ⟨[2, 3], [], [], [[0, 0], [0, 0]], [([], []), ([], [])]⟩
def ir_math_archFrexp : Vm.Fn := ⟨[2, 3], 0, 0, [.slot 0, .slot 1],
 .seq (.reg [⟨.mv (.c (.flt 0)), none⟩,
   ⟨.mv (.c (.int .i64 0)), none⟩] [] [] [(0, 0, none), (1, 1, none)])
 (.reg [⟨.mkif 9 (.c (.str [110, 111, 116, 32, 105, 109, 112, 108, 101, 109, 101, 110, 116, 101, 100])), none⟩,
   ⟨.bad, none⟩] [] [] [])⟩
/-- 38: math.frexp -/
def h38 : Vm.Hint := ⟨[0, 2, 3, 4, 5, 9], [], [], [[0, 0], [0, 0, 0], [0, 0, 0], [0, 0, 0, 0, 0, 0, 0], [0, 0, 0], [0, 0, 0, 0, 0, 0, 0], [0, 0, 0], [0, 0, 0, 0, 0, 0, 0, 0, 0], [0, 0, 0], [0, 0, 0], [0, 0, 0]], [([1, 2], []), ([], []), ([0, 4], []), ([4], []), ([0, 5], []), ([5], []), ([0], []), ([], []), ([], []), ([], []), ([3], [])]⟩
def ir_math_frexp : Vm.Fn := ⟨[0, 2, 3, 4, 5, 9], 0, 0, [.slot 1, .slot 2],
 .seq (.seq (.reg [⟨.mv (.c (.flt 0)), none⟩,
   ⟨.mv (.c (.int .i64 0)), none⟩] [] [] [(1, 0, none), (2, 1, none)])
 (.drop [1, 2] []))
 (.seq (.block 0 (.seq (.reg [⟨.mv (.s 0), none⟩,
    ⟨.bin .eql (.r 0) (.c (.flt 0)), none⟩,
    ⟨.mv (.r 1), none⟩] [] [] [(4, 2, none)])
  (.cond (.s 4) (.seq (.seq (.reg [⟨.mv (.s 0), none⟩,
     ⟨.mv (.r 0), none⟩,
     ⟨.mv (.c (.int .i64 0)), none⟩] [] [] [(1, 1, none), (2, 2, none)])
   (.drop [0, 4] []))
   (.ret))
   (.seq (.seq (.reg [⟨.mv (.s 0), none⟩,
     ⟨.call .val n_math_IsInf [(.r 0), (.c (.int .i64 0))], none⟩,
     ⟨.mv (.r 1), none⟩,
     ⟨.mv (.s 0), some (2, false)⟩,
     ⟨.call .val n_math_IsNaN [(.r 3)], some (2, false)⟩,
     ⟨.pick (.r 2) (.c (.bool true)) (.r 4), none⟩,
     ⟨.mv (.r 5), none⟩] [] [] [(5, 6, none)])
   (.drop [4] []))
   (.cond (.s 5) (.seq (.seq (.reg [⟨.mv (.s 0), none⟩,
      ⟨.mv (.r 0), none⟩,
      ⟨.mv (.c (.int .i64 0)), none⟩] [] [] [(1, 1, none), (2, 2, none)])
    (.drop [0, 5] []))
    (.ret))
    (.skip))))))
 (.seq (.seq (.reg [⟨.mv (.s 0), none⟩,
   ⟨.call .val n_math_normalize [(.r 0)], none⟩,
   ⟨.mv (.r 1), none⟩,
   ⟨.ext (.r 2) 0, none⟩,
   ⟨.ext (.r 2) 1, none⟩,
   ⟨.mv (.r 3), none⟩,
   ⟨.mv (.r 4), none⟩] [] [] [(0, 5, none), (2, 6, none)])
 (.drop [5] []))
 (.seq (.seq (.reg [⟨.mv (.s 0), none⟩,
   ⟨.prim .bits (.r 0), none⟩,
   ⟨.mv (.r 1), none⟩] [] [] [(3, 2, none)])
 (.drop [0] []))
 (.seq (.reg [⟨.mv (.s 2), none⟩,
   ⟨.mv (.s 3), none⟩,
   ⟨.bin .shr (.r 1) (.c (.int .u64 52)), none⟩,
   ⟨.bin .and (.r 2) (.c (.int .u64 2047)), none⟩,
   ⟨.i2i .i64 (.r 3), none⟩,
   ⟨.bin .sub (.r 4) (.c (.int .i64 1023)), none⟩,
   ⟨.bin .add (.r 5) (.c (.int .i64 1)), none⟩,
   ⟨.bin .add (.r 0) (.r 6), none⟩,
   ⟨.mv (.r 7), none⟩] [] [] [(2, 8, none)])
 (.seq (.reg [⟨.mv (.s 3), none⟩,
   ⟨.bin .andNot (.r 0) (.c (.int .u64 9218868437227405312)), none⟩,
   ⟨.mv (.r 1), none⟩] [] [] [(3, 2, none)])
 (.seq (.reg [⟨.mv (.s 3), none⟩,
   ⟨.bin .or (.r 0) (.c (.int .u64 4602678819172646912)), none⟩,
   ⟨.mv (.r 1), none⟩] [] [] [(3, 2, none)])
 (.seq (.seq (.reg [⟨.mv (.s 3), none⟩,
   ⟨.prim .frombits (.r 0), none⟩,
   ⟨.mv (.r 1), none⟩] [] [] [(1, 2, none)])
 (.drop [3] []))
 (.ret))))))))⟩
/-- 39: math.archLdexp -/
def h39 : Vm.Hint := ⟨[4], [], [], [[0], [0, 0]], [([], []), ([], [])]⟩
def ir_math_archLdexp : Vm.Fn := ⟨[4], 0, 0, [.slot 0],
 .seq (.reg [⟨.mv (.c (.flt 0)), none⟩] [] [] [(0, 0, none)])
 (.reg [⟨.mkif 9 (.c (.str [110, 111, 116, 32, 105, 109, 112, 108, 101, 109, 101, 110, 116, 101, 100])), none⟩,
   ⟨.bad, none⟩] [] [] [])⟩
/-- 40: math.ldexp -/
def h40 : Vm.Hint := ⟨[0, 1, 4, 5, 6, 7, 8, 12, 38, 42, 44, 48], [], [], [[0], [0, 0, 0], [0, 0], [0, 0, 0, 0, 0, 0, 0], [0, 0], [0, 0, 0, 0, 0, 0, 0], [0, 0, 0, 0], [0, 0, 0], [0, 0, 0, 0, 0, 0, 0, 0], [0, 0], [0, 0, 0], [0, 0], [0, 0], [0, 0], [0, 0], [0], [0, 0], [0, 0, 0], [0], [0, 0, 0], [0, 0, 0, 0, 0, 0, 0], [0, 0, 0, 0, 0]], [([2], []), ([], []), ([0, 1, 6], []), ([6], []), ([0, 1, 7], []), ([7], []), ([3], []), ([], []), ([], []), ([], []), ([0, 1, 4, 8], []), ([8], []), ([0, 1, 4, 9], []), ([10], []), ([10], []), ([0, 9], []), ([], []), ([5, 11], []), ([], []), ([11], []), ([1], []), ([4, 5], [])]⟩
def ir_math_ldexp : Vm.Fn := ⟨[0, 1, 4, 5, 6, 7, 8, 12, 38, 42, 44, 48], 0, 0, [.slot 2],
 .seq (.seq (.reg [⟨.mv (.c (.flt 0)), none⟩] [] [] [(2, 0, none)])
 (.drop [2] []))
 (.seq (.block 0 (.seq (.reg [⟨.mv (.s 0), none⟩,
    ⟨.bin .eql (.r 0) (.c (.flt 0)), none⟩,
    ⟨.mv (.r 1), none⟩] [] [] [(6, 2, none)])
  (.cond (.s 6) (.seq (.seq (.reg [⟨.mv (.s 0), none⟩,
     ⟨.mv (.r 0), none⟩] [] [] [(2, 1, none)])
   (.drop [0, 1, 6] []))
   (.ret))
   (.seq (.seq (.reg [⟨.mv (.s 0), none⟩,
     ⟨.call .val n_math_IsInf [(.r 0), (.c (.int .i64 0))], none⟩,
     ⟨.mv (.r 1), none⟩,
     ⟨.mv (.s 0), some (2, false)⟩,
     ⟨.call .val n_math_IsNaN [(.r 3)], some (2, false)⟩,
     ⟨.pick (.r 2) (.c (.bool true)) (.r 4), none⟩,
     ⟨.mv (.r 5), none⟩] [] [] [(7, 6, none)])
   (.drop [6] []))
   (.cond (.s 7) (.seq (.seq (.reg [⟨.mv (.s 0), none⟩,
      ⟨.mv (.r 0), none⟩] [] [] [(2, 1, none)])
    (.drop [0, 1, 7] []))
    (.ret))
    (.skip))))))
 (.seq (.seq (.reg [⟨.mv (.s 0), none⟩,
   ⟨.call .val n_math_normalize [(.r 0)], none⟩,
   ⟨.mv (.r 1), none⟩,
   ⟨.ext (.r 2) 0, none⟩,
   ⟨.ext (.r 2) 1, none⟩,
   ⟨.mv (.r 3), none⟩,
   ⟨.mv (.r 4), none⟩] [] [] [(0, 5, none), (3, 6, none)])
 (.drop [7] []))
 (.seq (.seq (.reg [⟨.mv (.s 1), none⟩,
   ⟨.mv (.s 3), none⟩,
   ⟨.bin .add (.r 0) (.r 1), none⟩,
   ⟨.mv (.r 2), none⟩] [] [] [(1, 3, none)])
 (.drop [3] []))
 (.seq (.reg [⟨.mv (.s 0), none⟩,
   ⟨.prim .bits (.r 0), none⟩,
   ⟨.mv (.r 1), none⟩] [] [] [(4, 2, none)])
 (.seq (.reg [⟨.mv (.s 1), none⟩,
   ⟨.mv (.s 4), none⟩,
   ⟨.bin .shr (.r 1) (.c (.int .u64 52)), none⟩,
   ⟨.i2i .i64 (.r 2), none⟩,
   ⟨.bin .and (.r 3) (.c (.int .i64 2047)), none⟩,
   ⟨.bin .sub (.r 4) (.c (.int .i64 1023)), none⟩,
   ⟨.bin .add (.r 0) (.r 5), none⟩,
   ⟨.mv (.r 6), none⟩] [] [] [(1, 7, none)])
 (.seq (.seq (.reg [⟨.mv (.s 1), none⟩,
   ⟨.bin .lss (.r 0) (.c (.int .i64 (-1075))), none⟩] [] [] [(8, 1, none)])
 (.cond (.s 8) (.seq (.seq (.reg [⟨.mv (.s 0), none⟩,
    ⟨.call .val n_math_Copysign [(.c (.flt 0)), (.r 0)], none⟩,
    ⟨.mv (.r 1), none⟩] [] [] [(2, 2, none)])
  (.drop [0, 1, 4, 8] []))
  (.ret))
  (.skip)))
 (.seq (.seq (.seq (.reg [⟨.mv (.s 1), none⟩,
   ⟨.bin .gtr (.r 0) (.c (.int .i64 1023)), none⟩] [] [] [(9, 1, none)])
 (.drop [8] []))
 (.cond (.s 9) (.seq (.seq (.seq (.reg [⟨.mv (.s 0), none⟩,
    ⟨.bin .lss (.r 0) (.c (.flt 0)), none⟩] [] [] [(10, 1, none)])
  (.drop [0, 1, 4, 9] []))
  (.cond (.s 10) (.seq (.seq (.reg [⟨.call .val n_math_Inf [(.c (.int .i64 (-1)))], none⟩,
     ⟨.mv (.r 0), none⟩] [] [] [(2, 1, none)])
   (.drop [10] []))
   (.ret))
   (.skip)))
  (.seq (.seq (.reg [⟨.call .val n_math_Inf [(.c (.int .i64 1))], none⟩,
    ⟨.mv (.r 0), none⟩] [] [] [(2, 1, none)])
  (.drop [10] []))
  (.ret)))
  (.skip)))
 (.seq (.seq (.reg [⟨.mv (.c (.flt 4607182418800017408)), none⟩] [] [] [(5, 0, none)])
 (.drop [0, 9] []))
 (.seq (.seq (.reg [⟨.mv (.s 1), none⟩,
   ⟨.bin .lss (.r 0) (.c (.int .i64 (-1022))), none⟩] [] [] [(11, 1, none)])
 (.cond (.s 11) (.seq (.seq (.reg [⟨.mv (.s 1), none⟩,
    ⟨.bin .add (.r 0) (.c (.int .i64 53)), none⟩,
    ⟨.mv (.r 1), none⟩] [] [] [(1, 2, none)])
  (.drop [5, 11] []))
  (.reg [⟨.mv (.c (.flt 4368491638549381120)), none⟩] [] [] [(5, 0, none)]))
  (.skip)))
 (.seq (.seq (.reg [⟨.mv (.s 4), none⟩,
   ⟨.bin .andNot (.r 0) (.c (.int .u64 9218868437227405312)), none⟩,
   ⟨.mv (.r 1), none⟩] [] [] [(4, 2, none)])
 (.drop [11] []))
 (.seq (.seq (.reg [⟨.mv (.s 4), none⟩,
   ⟨.mv (.s 1), none⟩,
   ⟨.bin .add (.r 1) (.c (.int .i64 1023)), none⟩,
   ⟨.i2i .u64 (.r 2), none⟩,
   ⟨.bin .shl (.r 3) (.c (.int .u64 52)), none⟩,
   ⟨.bin .or (.r 0) (.r 4), none⟩,
   ⟨.mv (.r 5), none⟩] [] [] [(4, 6, none)])
 (.drop [1] []))
 (.seq (.seq (.reg [⟨.mv (.s 5), none⟩,
   ⟨.mv (.s 4), none⟩,
   ⟨.prim .frombits (.r 1), none⟩,
   ⟨.bin .mul (.r 0) (.r 2), none⟩,
   ⟨.mv (.r 3), none⟩] [] [] [(2, 4, none)])
 (.drop [4, 5] []))
 (.ret)))))))))))))⟩
/-- 41: math.Trunc -/
def h41 : Vm.Hint := ⟨[0, 2], [], [], [[0], [0, 0, 0], [0, 0, 0]], [([1], []), ([0], []), ([0], [])]⟩
def ir_math_Trunc : Vm.Fn := ⟨[0, 2], 0, 0, [.slot 1],
 .seq (.seq (.reg [⟨.mv (.c (.flt 0)), none⟩] [] [] [(1, 0, none)])
 (.drop [1] []))
 (.seq (.cond (.c (.bool true)) (.seq (.seq (.reg [⟨.mv (.s 0), none⟩,
    ⟨.prim .trunc (.r 0), none⟩,
    ⟨.mv (.r 1), none⟩] [] [] [(1, 2, none)])
  (.drop [0] []))
  (.ret))
  (.skip))
 (.seq (.seq (.reg [⟨.mv (.s 0), none⟩,
   ⟨.call .val n_math_trunc [(.r 0)], none⟩,
   ⟨.mv (.r 1), none⟩] [] [] [(1, 2, none)])
 (.drop [0] []))
 (.ret)))⟩
/-- 42: math.Copysign -/
def h42 : Vm.Hint := ⟨[0, 1, 4], [], [], [[0], [0, 0, 0, 0, 0, 0, 0, 0, 0]], [([2], []), ([0, 1], [])]⟩
def ir_math_Copysign : Vm.Fn := ⟨[0, 1, 4], 0, 0, [.slot 2],
 .seq (.seq (.reg [⟨.mv (.c (.flt 0)), none⟩] [] [] [(2, 0, none)])
 (.drop [2] []))
 (.seq (.seq (.reg [⟨.mv (.s 0), none⟩,
   ⟨.prim .bits (.r 0), none⟩,
   ⟨.bin .andNot (.r 1) (.c (.int .u64 9223372036854775808)), none⟩,
   ⟨.mv (.s 1), none⟩,
   ⟨.prim .bits (.r 3), none⟩,
   ⟨.bin .and (.r 4) (.c (.int .u64 9223372036854775808)), none⟩,
   ⟨.bin .or (.r 2) (.r 5), none⟩,
   ⟨.prim .frombits (.r 6), none⟩,
   ⟨.mv (.r 7), none⟩] [] [] [(2, 8, none)])
 (.drop [0, 1] []))
 (.ret))⟩
/-- 43: math.normalize -/
def h43 : Vm.Hint := ⟨[0, 2, 3, 6], [], [], [[0, 0], [0, 0, 0], [0, 0, 0, 0], [0, 0, 0]], [([1, 2], []), ([], []), ([0, 3], []), ([0, 3], [])]⟩
def ir_math_normalize : Vm.Fn := ⟨[0, 2, 3, 6], 0, 0, [.slot 1, .slot 2],
 .seq (.seq (.reg [⟨.mv (.c (.flt 0)), none⟩,
   ⟨.mv (.c (.int .i64 0)), none⟩] [] [] [(1, 0, none), (2, 1, none)])
 (.drop [1, 2] []))
 (.seq (.seq (.reg [⟨.mv (.s 0), none⟩,
   ⟨.call .val n_math_Abs [(.r 0)], none⟩,
   ⟨.bin .lss (.r 1) (.c (.flt 4503599627370496)), none⟩] [] [] [(3, 2, none)])
 (.cond (.s 3) (.seq (.seq (.reg [⟨.mv (.s 0), none⟩,
    ⟨.bin .mul (.r 0) (.c (.flt 4841369599423283200)), none⟩,
    ⟨.mv (.r 1), none⟩,
    ⟨.mv (.c (.int .i64 (-52))), none⟩] [] [] [(1, 2, none), (2, 3, none)])
  (.drop [0, 3] []))
  (.ret))
  (.skip)))
 (.seq (.seq (.reg [⟨.mv (.s 0), none⟩,
   ⟨.mv (.r 0), none⟩,
   ⟨.mv (.c (.int .i64 0)), none⟩] [] [] [(1, 1, none), (2, 2, none)])
 (.drop [0, 3] []))
 (.ret)))⟩
/-- 44: math.Inf -/
def h44 : Vm.Hint := ⟨[0, 2, 3, 5], [], [], [[0], [0], [0, 0], [0], [0], [0, 0, 0]], [([1], []), ([2], []), ([0], []), ([3], []), ([3], []), ([2], [])]⟩
def ir_math_Inf : Vm.Fn := ⟨[0, 2, 3, 5], 0, 0, [.slot 1],
 .seq (.seq (.reg [⟨.mv (.c (.flt 0)), none⟩] [] [] [(1, 0, none)])
 (.drop [1] []))
 (.seq (.seq (.reg [⟨.mv (.c (.int .u64 0)), none⟩] [] [] [(2, 0, none)])
 (.drop [2] []))
 (.seq (.seq (.seq (.reg [⟨.mv (.s 0), none⟩,
   ⟨.bin .geq (.r 0) (.c (.int .i64 0)), none⟩] [] [] [(3, 1, none)])
 (.drop [0] []))
 (.cond (.s 3) (.seq (.reg [⟨.mv (.c (.int .u64 9218868437227405312)), none⟩] [] [] [(2, 0, none)])
  (.drop [3] []))
  (.seq (.reg [⟨.mv (.c (.int .u64 18442240474082181120)), none⟩] [] [] [(2, 0, none)])
  (.drop [3] []))))
 (.seq (.seq (.reg [⟨.mv (.s 2), none⟩,
   ⟨.prim .frombits (.r 0), none⟩,
   ⟨.mv (.r 1), none⟩] [] [] [(1, 2, none)])
 (.drop [2] []))
 (.ret))))⟩
/-- 46: math.trunc -/
def h46 : Vm.Hint := ⟨[0, 2, 3, 4, 7, 17], [], [], [[0], [0, 0, 0], [0, 0, 0], [0, 0, 0], [0, 0, 0, 0, 0], [0, 0], [0, 0, 0, 0, 0, 0, 0], [0, 0, 0]], [([1], []), ([], []), ([0, 4], []), ([0, 4], []), ([], []), ([], []), ([3, 5], []), ([2, 3, 5], [])]⟩
def ir_math_trunc : Vm.Fn := ⟨[0, 2, 3, 4, 7, 17], 0, 0, [.slot 1],
 .seq (.seq (.reg [⟨.mv (.c (.flt 0)), none⟩] [] [] [(1, 0, none)])
 (.drop [1] []))
 (.seq (.seq (.reg [⟨.mv (.s 0), none⟩,
   ⟨.call .val n_math_Abs [(.r 0)], none⟩,
   ⟨.bin .lss (.r 1) (.c (.flt 4607182418800017408)), none⟩] [] [] [(4, 2, none)])
 (.cond (.s 4) (.seq (.seq (.reg [⟨.mv (.s 0), none⟩,
    ⟨.call .val n_math_Copysign [(.c (.flt 0)), (.r 0)], none⟩,
    ⟨.mv (.r 1), none⟩] [] [] [(1, 2, none)])
  (.drop [0, 4] []))
  (.ret))
  (.skip)))
 (.seq (.seq (.reg [⟨.mv (.s 0), none⟩,
   ⟨.prim .bits (.r 0), none⟩,
   ⟨.mv (.r 1), none⟩] [] [] [(2, 2, none)])
 (.drop [0, 4] []))
 (.seq (.reg [⟨.mv (.s 2), none⟩,
   ⟨.bin .shr (.r 0) (.c (.int .u64 52)), none⟩,
   ⟨.bin .and (.r 1) (.c (.int .u64 2047)), none⟩,
   ⟨.bin .sub (.r 2) (.c (.int .u64 1023)), none⟩,
   ⟨.mv (.r 3), none⟩] [] [] [(3, 4, none)])
 (.seq (.seq (.reg [⟨.mv (.s 3), none⟩,
   ⟨.bin .lss (.r 0) (.c (.int .u64 52)), none⟩] [] [] [(5, 1, none)])
 (.cond (.s 5) (.seq (.reg [⟨.mv (.s 2), none⟩,
    ⟨.mv (.s 3), none⟩,
    ⟨.bin .sub (.c (.int .u64 52)) (.r 1), none⟩,
    ⟨.bin .shl (.c (.int .u64 1)) (.r 2), none⟩,
    ⟨.bin .sub (.r 3) (.c (.int .u64 1)), none⟩,
    ⟨.bin .andNot (.r 0) (.r 4), none⟩,
    ⟨.mv (.r 5), none⟩] [] [] [(2, 6, none)])
  (.drop [3, 5] []))
  (.skip)))
 (.seq (.seq (.reg [⟨.mv (.s 2), none⟩,
   ⟨.prim .frombits (.r 0), none⟩,
   ⟨.mv (.r 1), none⟩] [] [] [(1, 2, none)])
 (.drop [2, 3, 5] []))
 (.ret))))))⟩
def hints (f : Nat) : Option Vm.Hint := if f < 23 then (if f < 13 then (if f < 8 then (if f < 5 then (if f < 4 then (if f = 3 then some h3 else none) else (if f = 4 then some h4 else none)) else (if f < 6 then (if f = 5 then some h5 else none) else (if f < 7 then (if f = 6 then some h6 else none) else (if f = 7 then some h7 else none)))) else (if f < 10 then (if f < 9 then (if f = 8 then some h8 else none) else (if f = 9 then some h9 else none)) else (if f < 11 then (if f = 10 then some h10 else none) else (if f < 12 then (if f = 11 then some h11 else none) else (if f = 12 then some h12 else none))))) else (if f < 18 then (if f < 15 then (if f < 14 then (if f = 13 then some h13 else none) else (if f = 14 then some h14 else none)) else (if f < 16 then (if f = 15 then some h15 else none) else (if f < 17 then (if f = 16 then some h16 else none) else (if f = 17 then some h17 else none)))) else (if f < 20 then (if f < 19 then (if f = 18 then some h18 else none) else (if f = 19 then some h19 else none)) else (if f < 21 then (if f = 20 then some h20 else none) else (if f < 22 then (if f = 21 then some h21 else none) else (if f = 22 then some h22 else none)))))) else (if f < 36 then (if f < 29 then (if f < 26 then (if f < 24 then (if f = 23 then some h23 else none) else (if f = 24 then some h24 else none)) else (if f < 27 then (if f = 26 then some h26 else none) else (if f < 28 then (if f = 27 then some h27 else none) else (if f = 28 then some h28 else none)))) else (if f < 33 then (if f < 31 then (if f = 29 then some h29 else none) else (if f = 31 then some h31 else none)) else (if f < 34 then (if f = 33 then some h33 else none) else (if f < 35 then (if f = 34 then some h34 else none) else (if f = 35 then some h35 else none))))) else (if f < 41 then (if f < 38 then (if f < 37 then (if f = 36 then some h36 else none) else (if f = 37 then some h37 else none)) else (if f < 39 then (if f = 38 then some h38 else none) else (if f < 40 then (if f = 39 then some h39 else none) else (if f = 40 then some h40 else none)))) else (if f < 43 then (if f < 42 then (if f = 41 then some h41 else none) else (if f = 42 then some h42 else none)) else (if f < 44 then (if f = 43 then some h43 else none) else (if f < 46 then (if f = 44 then some h44 else none) else (if f = 46 then some h46 else none))))))
noncomputable abbrev pg : Vm.Pg := pgOf Go.Proofs.Try.prog hints
theorem fn_undertowlaw03_ChooseOf : pg.fn 3 = some ir_undertowlaw03_ChooseOf := by kernel_rfl
theorem fn_undertowlaw03_ChooseRight : pg.fn 4 = some ir_undertowlaw03_ChooseRight := by kernel_rfl
theorem fn_undertowlaw03_ChooseOne : pg.fn 5 = some ir_undertowlaw03_ChooseOne := by kernel_rfl
theorem fn_undertowlaw03_ChooseFair : pg.fn 6 = some ir_undertowlaw03_ChooseFair := by kernel_rfl
theorem fn_undertowlaw03_ChooseJoin : pg.fn 7 = some ir_undertowlaw03_ChooseJoin := by kernel_rfl
theorem fn_undertowlaw03_alive : pg.fn 8 = some ir_undertowlaw03_alive := by kernel_rfl
theorem fn_choose_Of : pg.fn 9 = some ir_choose_Of := by kernel_rfl
theorem fn_undertowref03_Of : pg.fn 10 = some ir_undertowref03_Of := by kernel_rfl
theorem fn_choose_Oldest : pg.fn 11 = some ir_choose_Oldest := by kernel_rfl
theorem fn_undertowref03_Oldest : pg.fn 12 = some ir_undertowref03_Oldest := by kernel_rfl
theorem fn_choose_Right : pg.fn 13 = some ir_choose_Right := by kernel_rfl
theorem fn_undertowref03_Right : pg.fn 14 = some ir_undertowref03_Right := by kernel_rfl
theorem fn_undertowref02_None : pg.fn 15 = some ir_undertowref02_None := by kernel_rfl
theorem fn_choose_Fair : pg.fn 16 = some ir_choose_Fair := by kernel_rfl
theorem fn_undertowref03_Fair : pg.fn 17 = some ir_undertowref03_Fair := by kernel_rfl
theorem fn_choose_Windows : pg.fn 18 = some ir_choose_Windows := by kernel_rfl
theorem fn_math_IsNaN : pg.fn 19 = some ir_math_IsNaN := by kernel_rfl
theorem fn_math_IsInf : pg.fn 20 = some ir_math_IsInf := by kernel_rfl
theorem fn_math_Mod : pg.fn 21 = some ir_math_Mod := by kernel_rfl
theorem fn_math_Floor : pg.fn 22 = some ir_math_Floor := by kernel_rfl
theorem fn_math_Abs : pg.fn 23 = some ir_math_Abs := by kernel_rfl
theorem fn_math_Signbit : pg.fn 24 = some ir_math_Signbit := by kernel_rfl
theorem fn_undertowref03_Whole : pg.fn 26 = some ir_undertowref03_Whole := by kernel_rfl
theorem fn_choose_whole : pg.fn 27 = some ir_choose_whole := by kernel_rfl
theorem fn_math_archMod : pg.fn 28 = some ir_math_archMod := by kernel_rfl
theorem fn_math_mod : pg.fn 29 = some ir_math_mod := by kernel_rfl
theorem fn_math_floor : pg.fn 31 = some ir_math_floor := by kernel_rfl
theorem fn_math_NaN : pg.fn 33 = some ir_math_NaN := by kernel_rfl
theorem fn_math_Frexp : pg.fn 34 = some ir_math_Frexp := by kernel_rfl
theorem fn_math_Ldexp : pg.fn 35 = some ir_math_Ldexp := by kernel_rfl
theorem fn_math_Modf : pg.fn 36 = some ir_math_Modf := by kernel_rfl
theorem fn_math_archFrexp : pg.fn 37 = some ir_math_archFrexp := by kernel_rfl
theorem fn_math_frexp : pg.fn 38 = some ir_math_frexp := by kernel_rfl
theorem fn_math_archLdexp : pg.fn 39 = some ir_math_archLdexp := by kernel_rfl
theorem fn_math_ldexp : pg.fn 40 = some ir_math_ldexp := by kernel_rfl
theorem fn_math_Trunc : pg.fn 41 = some ir_math_Trunc := by kernel_rfl
theorem fn_math_Copysign : pg.fn 42 = some ir_math_Copysign := by kernel_rfl
theorem fn_math_normalize : pg.fn 43 = some ir_math_normalize := by kernel_rfl
theorem fn_math_Inf : pg.fn 44 = some ir_math_Inf := by kernel_rfl
theorem fn_math_trunc : pg.fn 46 = some ir_math_trunc := by kernel_rfl
def irL : List (Nat × Vm.Fn) := [(3, ir_undertowlaw03_ChooseOf), (4, ir_undertowlaw03_ChooseRight), (5, ir_undertowlaw03_ChooseOne), (6, ir_undertowlaw03_ChooseFair), (7, ir_undertowlaw03_ChooseJoin), (8, ir_undertowlaw03_alive), (9, ir_choose_Of), (10, ir_undertowref03_Of), (11, ir_choose_Oldest), (12, ir_undertowref03_Oldest), (13, ir_choose_Right), (14, ir_undertowref03_Right), (15, ir_undertowref02_None), (16, ir_choose_Fair), (17, ir_undertowref03_Fair), (18, ir_choose_Windows), (19, ir_math_IsNaN), (20, ir_math_IsInf), (21, ir_math_Mod), (22, ir_math_Floor), (23, ir_math_Abs), (24, ir_math_Signbit), (26, ir_undertowref03_Whole), (27, ir_choose_whole), (28, ir_math_archMod), (29, ir_math_mod), (31, ir_math_floor), (33, ir_math_NaN), (34, ir_math_Frexp), (35, ir_math_Ldexp), (36, ir_math_Modf), (37, ir_math_archFrexp), (38, ir_math_frexp), (39, ir_math_archLdexp), (40, ir_math_ldexp), (41, ir_math_Trunc), (42, ir_math_Copysign), (43, ir_math_normalize), (44, ir_math_Inf), (46, ir_math_trunc)]
theorem irL_ok : ∀ q ∈ irL, pg.fn q.1 = some q.2 := by
  simp only [irL, List.forall_mem_cons]
  exact ⟨fn_undertowlaw03_ChooseOf, fn_undertowlaw03_ChooseRight, fn_undertowlaw03_ChooseOne, fn_undertowlaw03_ChooseFair, fn_undertowlaw03_ChooseJoin, fn_undertowlaw03_alive, fn_choose_Of, fn_undertowref03_Of, fn_choose_Oldest, fn_undertowref03_Oldest, fn_choose_Right, fn_undertowref03_Right, fn_undertowref02_None, fn_choose_Fair, fn_undertowref03_Fair, fn_choose_Windows, fn_math_IsNaN, fn_math_IsInf, fn_math_Mod, fn_math_Floor, fn_math_Abs, fn_math_Signbit, fn_undertowref03_Whole, fn_choose_whole, fn_math_archMod, fn_math_mod, fn_math_floor, fn_math_NaN, fn_math_Frexp, fn_math_Ldexp, fn_math_Modf, fn_math_archFrexp, fn_math_frexp, fn_math_archLdexp, fn_math_ldexp, fn_math_Trunc, fn_math_Copysign, fn_math_normalize, fn_math_Inf, fn_math_trunc, by simp⟩
end Go.Proofs.Ytgcahipcbidojaa
