/- The functions' own form, printed by a tool of this session out of the given translation. -/
import Derived.Test.YtkdgcgkmgcmaiaaDoorVf
import Derived.Test.YtkdgcgkmgcmaiaaDoorChecked
import Derived.KernelRfl
namespace Go.Proofs.YtkdgcgkmgcmaiaaDoor
open Go Go.Vm
def glN : List Int := [0, 1, 56, 2, 57, 49, 28, 3, 61, 58, 42, 50, 38, 29, 17, 4, 62, 47, 59, 36, 45, 43, 51, 22, 53, 39, 33, 30, 24, 18, 12, 5, 63, 55, 48, 27, 60, 41, 37, 16, 46, 35, 44, 21, 52, 32, 23, 11, 54, 26, 40, 15, 34, 20, 31, 10, 25, 14, 19, 9, 13, 8, 7, 6]
def glV : List V := glN.map (.int .u8)
def glT : List (Nat × List V) := [(0, glV)]
abbrev n_undertowlaw21_DepsHang : Nat := 3
abbrev n_undertowlaw21_DepsRoots : Nat := 4
abbrev n_undertowlaw21_DepsBehind : Nat := 5
abbrev n_undertowlaw21_DepsApart : Nat := 6
abbrev n_undertowlaw21_alive : Nat := 7
abbrev n_deps_Address : Nat := 8
abbrev n_undertowlaw21_retired : Nat := 9
abbrev n_deps_Course : Nat := 10
abbrev n_deps_Data : Nat := 11
abbrev n_undertowlaw21_same : Nat := 12
abbrev n_undertowref21_Hang : Nat := 13
abbrev n_undertowref21_Roots : Nat := 14
abbrev n_undertowref02_SameInts : Nat := 15
abbrev n_deps_Roots : Nat := 16
abbrev n_rel_Rel_Pairs : Nat := 17
abbrev n_undertowref05_Sort : Nat := 18
abbrev n_rel_Rel_Has : Nat := 19
abbrev n_undertowref05_Target : Nat := 20
abbrev n_rel_Rel_Len : Nat := 21
abbrev n_deps_along : Nat := 22
abbrev n_deps_Address_1 : Nat := 23
abbrev n_ops_Memory : Nat := 24
abbrev n_deps_roots_of : Nat := 25
abbrev n_deps_first : Nat := 26
abbrev n_deps_Course_1 : Nat := 27
abbrev n_ops_Sort : Nat := 28
abbrev n_deps_set_join : Nat := 29
abbrev n_ops_Sources : Nat := 30
abbrev n_deps_Data_1 : Nat := 31
abbrev n_ops_Stores : Nat := 32
abbrev n_deps_second : Nat := 33
abbrev n_undertowref19_New : Nat := 34
abbrev n_undertowref05_Register : Nat := 35
abbrev n_undertowref05_Size : Nat := 36
abbrev n_undertowref05_Sources : Nat := 37
abbrev n_undertowref21_Into : Nat := 38
abbrev n_deps_roots_behind : Nat := 39
abbrev n_deps_set_each : Nat := 40
abbrev n_rel_row_each : Nat := 41
abbrev n_rel_Rel_is : Nat := 42
abbrev n_rel_row_has : Nat := 43
abbrev n_undertowref05_Writes : Nat := 44
abbrev n_rel_New : Nat := 45
abbrev n_rel_Rel_Add : Nat := 46
abbrev n_ops_Size : Nat := 47
abbrev n_ops_register : Nat := 48
abbrev n_undertowref05_Name : Nat := 49
abbrev n_undertowref05_First : Nat := 50
abbrev n_undertowref05_Second : Nat := 51
abbrev n_ops_Target : Nat := 52
abbrev n_deps_gives : Nat := 53
abbrev n_math_bits_TrailingZeros64 : Nat := 54
abbrev n_rel_row_add : Nat := 55
abbrev n_undertowref05_Names : Nat := 56
/-- 3: undertow/undertowlaw21.DepsHang -/
def h3 : Vm.Hint := ⟨[0, 2, 3, 5, 8], [], [], [[0], [0, 0], [0], [0, 0, 0], [0, 0, 0, 0, 0, 0, 0, 0, 0, 0, 0, 0, 0, 0, 0, 0, 0, 0, 0, 0, 0, 0, 0, 0, 0], [0, 0, 0], [0, 0, 0, 0, 0, 0, 0, 0, 0, 0, 0, 0, 0, 0, 0, 0, 0, 0, 0, 0, 0, 0, 0]], [([1], []), ([], []), ([0, 3], []), ([3], []), ([0, 4], []), ([0, 4], []), ([2], [])], []⟩
def ir_undertowlaw21_DepsHang : Vm.Fn := ⟨[0, 2, 3, 5, 8], 0, 0, [.slot 1],
 .seq (.seq (.reg [⟨.mv (.c (.bool false)), none⟩] [] [] [(1, 0, none)])
 (.drop [1] []))
 (.seq (.seq (.reg [⟨.call .val n_undertowlaw21_alive [], none⟩,
   ⟨.un .not (.r 0), none⟩] [] [] [(3, 1, none)])
 (.cond (.s 3) (.seq (.seq (.reg [⟨.mv (.c (.bool false)), none⟩] [] [] [(1, 0, none)])
  (.drop [0, 3] []))
  (.ret))
  (.skip)))
 (.seq (.seq (.seq (.reg [⟨.mv (.s 0), none⟩,
   ⟨.len 1 (.r 0), none⟩,
   ⟨.bin .gtr (.r 1) (.c (.int .i64 60)), none⟩] [] [] [(4, 2, none)])
 (.drop [3] []))
 (.cond (.s 4) (.seq (.seq (.reg [⟨.call .val n_undertowlaw21_alive [], none⟩,
    ⟨.mv (.r 0), none⟩,
    ⟨.mv (.s 0), some (1, true)⟩,
    ⟨.len 1 (.r 2), some (1, true)⟩,
    ⟨.bin .leq (.r 3) (.c (.int .i64 512)), some (1, true)⟩,
    ⟨.mv (.r 4), some (1, true)⟩,
    ⟨.mv (.s 0), some (5, false)⟩,
    ⟨.call .val n_undertowlaw21_retired [(.r 6)], some (5, false)⟩,
    ⟨.call .val n_deps_Address [(.r 7)], some (5, false)⟩,
    ⟨.eqn .ptr false (.r 8) (.c (.nilp)), some (5, false)⟩,
    ⟨.mv (.r 9), some (5, false)⟩,
    ⟨.mv (.s 0), some (10, true)⟩,
    ⟨.call .val n_undertowlaw21_retired [(.r 11)], some (10, true)⟩,
    ⟨.call .val n_deps_Course [(.r 12)], some (10, true)⟩,
    ⟨.eqn .ptr false (.r 13) (.c (.nilp)), some (10, true)⟩,
    ⟨.pick (.r 10) (.r 14) (.c (.bool false)), some (5, false)⟩,
    ⟨.mv (.r 15), some (5, false)⟩,
    ⟨.mv (.s 0), some (16, true)⟩,
    ⟨.call .val n_undertowlaw21_retired [(.r 17)], some (16, true)⟩,
    ⟨.call .val n_deps_Data [(.r 18)], some (16, true)⟩,
    ⟨.eqn .ptr false (.r 19) (.c (.nilp)), some (16, true)⟩,
    ⟨.pick (.r 16) (.r 20) (.c (.bool false)), some (5, false)⟩,
    ⟨.pick (.r 5) (.c (.bool true)) (.r 21), some (1, true)⟩,
    ⟨.pick (.r 1) (.r 22) (.c (.bool false)), none⟩,
    ⟨.mv (.r 23), none⟩] [] [] [(1, 24, none)])
  (.drop [0, 4] []))
  (.ret))
  (.skip)))
 (.seq (.seq (.reg [⟨.mv (.s 0), none⟩,
   ⟨.call .val n_undertowlaw21_retired [(.r 0)], none⟩,
   ⟨.mv (.r 1), none⟩] [] [] [(2, 2, none)])
 (.drop [0, 4] []))
 (.seq (.seq (.reg [⟨.call .val n_undertowlaw21_alive [], none⟩,
   ⟨.mv (.r 0), none⟩,
   ⟨.mv (.s 2), some (1, true)⟩,
   ⟨.call .val n_deps_Address [(.r 2)], some (1, true)⟩,
   ⟨.mv (.s 2), some (1, true)⟩,
   ⟨.call .val n_undertowref21_Hang [(.r 4), (.c (.int .i64 1))], some (1, true)⟩,
   ⟨.call .val n_undertowlaw21_same [(.r 3), (.r 5)], some (1, true)⟩,
   ⟨.pick (.r 1) (.r 6) (.c (.bool false)), none⟩,
   ⟨.mv (.r 7), none⟩,
   ⟨.mv (.s 2), some (8, true)⟩,
   ⟨.call .val n_deps_Data [(.r 9)], some (8, true)⟩,
   ⟨.mv (.s 2), some (8, true)⟩,
   ⟨.call .val n_undertowref21_Hang [(.r 11), (.c (.int .i64 2))], some (8, true)⟩,
   ⟨.call .val n_undertowlaw21_same [(.r 10), (.r 12)], some (8, true)⟩,
   ⟨.pick (.r 8) (.r 13) (.c (.bool false)), none⟩,
   ⟨.mv (.r 14), none⟩,
   ⟨.mv (.s 2), some (15, true)⟩,
   ⟨.call .val n_deps_Course [(.r 16)], some (15, true)⟩,
   ⟨.mv (.s 2), some (15, true)⟩,
   ⟨.call .val n_undertowref21_Hang [(.r 18), (.c (.int .i64 3))], some (15, true)⟩,
   ⟨.call .val n_undertowlaw21_same [(.r 17), (.r 19)], some (15, true)⟩,
   ⟨.pick (.r 15) (.r 20) (.c (.bool false)), none⟩,
   ⟨.mv (.r 21), none⟩] [] [] [(1, 22, none)])
 (.drop [2] []))
 (.ret)))))⟩
/-- 4: undertow/undertowlaw21.DepsRoots -/
def h4 : Vm.Hint := ⟨[0, 1, 2, 6, 7, 8, 9, 10, 12, 15, 22, 29, 40, 45, 61], [9], [], [[0], [0, 0], [0], [0, 0, 0], [0, 0], [0, 0, 0], [0], [0, 0, 0, 0], [0, 0, 0], [0, 0, 0, 1, 0], [0], [0, 0], [0, 0, 0], [0, 0, 0, 0, 0, 0, 0, 0, 0], [0], [0, 0, 0, 0, 0], [0], [0, 0, 0, 0, 0, 0, 0, 0, 0, 0, 0, 0, 0, 0, 0, 0], [0, 0, 0, 0, 0, 0, 0, 0, 0, 0], [0, 0]], [([3], []), ([], []), ([0, 1, 2, 8], []), ([8], []), ([0, 1, 2, 9], []), ([0, 9], []), ([], []), ([], []), ([13], []), ([10], []), ([], []), ([], []), ([12], []), ([11], []), ([1, 2, 4, 5, 6, 7, 12], [(true, 0)]), ([6, 7, 11], [(true, 0)]), ([1, 2, 4, 5, 13], []), ([5, 10], []), ([1, 2, 4, 14], []), ([1, 2, 4, 14], [])], []⟩
def ir_undertowlaw21_DepsRootsl0 : C :=
 .seq (.seq (.reg [⟨.mv (.s 7), none⟩,
   ⟨.bin .lss (.r 0) (.c (.int .i64 32)), none⟩] [] [] [(11, 1, none)])
 (.cond (.s 11) (.skip)
  (.exit 2)))
 (.seq (.block 3 (.seq (.seq (.reg [⟨.mv (.s 4), none⟩,
    ⟨.mv (.s 5), none⟩,
    ⟨.mv (.s 7), none⟩,
    ⟨.call .val n_deps_Roots [(.r 0), (.r 1), (.r 2)], none⟩,
    ⟨.mv (.s 7), none⟩,
    ⟨.iaA 32 1 (.s 6) (.r 4), none⟩,
    ⟨.load 0 false 1 (.r 5), none⟩,
    ⟨.call .val n_undertowref02_SameInts [(.r 3), (.r 6)], none⟩,
    ⟨.un .not (.r 7), none⟩] [] [(3, 6)] [(12, 8, none)])
  (.drop [11] []))
  (.cond (.s 12) (.seq (.seq (.reg [⟨.mv (.c (.bool false)), none⟩] [] [] [(3, 0, none)])
   (.drop [1, 2, 4, 5, 6, 7, 12] [(true, 0)]))
   (.ret))
   (.skip))))
 (.seq (.reg [⟨.mv (.s 7), none⟩,
   ⟨.bin .add (.r 0) (.c (.int .i64 1)), none⟩,
   ⟨.mv (.r 1), none⟩] [] [] [(7, 2, none)])
 (.drop [12] [])))
def ir_undertowlaw21_DepsRootsl1 : C :=
 .seq (.seq (.reg [⟨.mv (.s 5), none⟩,
   ⟨.mv (.s 4), none⟩,
   ⟨.len 1 (.r 1), none⟩,
   ⟨.bin .leq (.r 0) (.r 2), none⟩] [] [] [(10, 3, none)])
 (.cond (.s 10) (.skip)
  (.exit 0)))
 (.seq (.block 1 (.seq (.seq (.reg [⟨.mv (.s 4), none⟩,
    ⟨.mv (.s 5), none⟩,
    ⟨.call .val n_undertowref21_Roots [(.r 0), (.r 1)], none⟩,
    ⟨.lalloc 0 [.nils, .nils, .nils, .nils, .nils, .nils, .nils, .nils, .nils, .nils, .nils, .nils, .nils, .nils, .nils, .nils, .nils, .nils, .nils, .nils, .nils, .nils, .nils, .nils, .nils, .nils, .nils, .nils, .nils, .nils, .nils, .nils], none⟩,
    ⟨.store 0 32 (.r 3) (.r 2), none⟩] [(true, 0)] [] [(6, 3, some 1)])
  (.drop [10] []))
  (.seq (.seq (.reg [⟨.mv (.c (.int .i64 1)), none⟩] [] [] [(7, 0, none)])
  (.block 2 (.loop ir_undertowlaw21_DepsRootsl0)))
  (.seq (.seq (.reg [⟨.mv (.s 4), none⟩,
    ⟨.mv (.s 5), none⟩,
    ⟨.call .val n_deps_Roots [(.r 0), (.r 1), (.c (.int .i64 0))], none⟩,
    ⟨.len 1 (.r 2), none⟩,
    ⟨.bin .gtr (.r 3) (.c (.int .i64 0)), none⟩] [] [] [(13, 4, none)])
  (.drop [6, 7, 11] [(true, 0)]))
  (.cond (.s 13) (.seq (.seq (.reg [⟨.mv (.c (.bool false)), none⟩] [] [] [(3, 0, none)])
   (.drop [1, 2, 4, 5, 13] []))
   (.ret))
   (.skip))))))
 (.seq (.reg [⟨.mv (.s 5), none⟩,
   ⟨.bin .add (.r 0) (.c (.int .i64 1)), none⟩,
   ⟨.mv (.r 1), none⟩] [] [] [(5, 2, none)])
 (.drop [13] [])))
def ir_undertowlaw21_DepsRoots : Vm.Fn := ⟨[0, 1, 2, 6, 7, 8, 9, 10, 12, 15, 22, 29, 40, 45, 61], 1, 0, [.slot 3],
 .seq (.seq (.reg [⟨.mv (.c (.bool false)), none⟩] [] [] [(3, 0, none)])
 (.drop [3] []))
 (.seq (.seq (.reg [⟨.call .val n_undertowlaw21_alive [], none⟩,
   ⟨.un .not (.r 0), none⟩] [] [] [(8, 1, none)])
 (.cond (.s 8) (.seq (.seq (.reg [⟨.mv (.c (.bool false)), none⟩] [] [] [(3, 0, none)])
  (.drop [0, 1, 2, 8] []))
  (.ret))
  (.skip)))
 (.seq (.seq (.seq (.reg [⟨.mv (.s 0), none⟩,
   ⟨.len 1 (.r 0), none⟩,
   ⟨.bin .gtr (.r 1) (.c (.int .i64 60)), none⟩] [] [] [(9, 2, none)])
 (.drop [8] []))
 (.cond (.s 9) (.seq (.seq (.reg [⟨.call .val n_undertowlaw21_alive [], none⟩,
    ⟨.mv (.r 0), none⟩] [] [] [(3, 1, none)])
  (.drop [0, 1, 2, 9] []))
  (.ret))
  (.skip)))
 (.seq (.seq (.reg [⟨.mv (.s 0), none⟩,
   ⟨.call .val n_undertowlaw21_retired [(.r 0)], none⟩,
   ⟨.mv (.r 1), none⟩] [] [] [(4, 2, none)])
 (.drop [0, 9] []))
 (.seq (.seq (.reg [⟨.mv (.c (.int .i64 0)), none⟩] [] [] [(5, 0, none)])
 (.block 0 (.loop ir_undertowlaw21_DepsRootsl1)))
 (.seq (.seq (.seq (.reg [⟨.mv (.s 1), none⟩,
   ⟨.bin .lss (.r 0) (.c (.int .i64 0)), none⟩,
   ⟨.mv (.r 1), none⟩,
   ⟨.mv (.s 1), some (2, false)⟩,
   ⟨.mv (.s 4), some (2, false)⟩,
   ⟨.len 1 (.r 4), some (2, false)⟩,
   ⟨.bin .gtr (.r 3) (.r 5), some (2, false)⟩,
   ⟨.pick (.r 2) (.c (.bool true)) (.r 6), none⟩,
   ⟨.mv (.r 7), none⟩,
   ⟨.mv (.s 2), some (8, false)⟩,
   ⟨.bin .lss (.r 9) (.c (.int .i64 1)), some (8, false)⟩,
   ⟨.pick (.r 8) (.c (.bool true)) (.r 10), none⟩,
   ⟨.mv (.r 11), none⟩,
   ⟨.mv (.s 2), some (12, false)⟩,
   ⟨.bin .gtr (.r 13) (.c (.int .i64 31)), some (12, false)⟩,
   ⟨.pick (.r 12) (.c (.bool true)) (.r 14), none⟩] [] [] [(14, 15, none)])
 (.drop [5, 10] []))
 (.cond (.s 14) (.seq (.seq (.reg [⟨.call .val n_undertowlaw21_alive [], none⟩,
    ⟨.mv (.r 0), none⟩,
    ⟨.mv (.s 4), some (1, true)⟩,
    ⟨.mv (.s 1), some (1, true)⟩,
    ⟨.mv (.s 2), some (1, true)⟩,
    ⟨.call .val n_deps_Roots [(.r 2), (.r 3), (.r 4)], some (1, true)⟩,
    ⟨.len 1 (.r 5), some (1, true)⟩,
    ⟨.bin .eql (.r 6) (.c (.int .i64 0)), some (1, true)⟩,
    ⟨.pick (.r 1) (.r 7) (.c (.bool false)), none⟩,
    ⟨.mv (.r 8), none⟩] [] [] [(3, 9, none)])
  (.drop [1, 2, 4, 14] []))
  (.ret))
  (.skip)))
 (.seq (.seq (.reg [⟨.call .val n_undertowlaw21_alive [], none⟩,
   ⟨.mv (.r 0), none⟩] [] [] [(3, 1, none)])
 (.drop [1, 2, 4, 14] []))
 (.ret)))))))⟩
/-- 5: undertow/undertowlaw21.DepsBehind -/
def h5 : Vm.Hint := ⟨[0, 1, 4, 5, 6, 7, 8, 9, 10, 11, 12, 13, 14, 16, 19, 28, 32, 42, 50, 62, 93, 96, 101, 112], [], [], [[0], [0, 0], [0], [0, 0, 0], [0, 0], [0, 0, 0], [0, 0, 0], [0, 0, 0, 0], [0, 0, 0], [0], [0, 0], [0, 0, 0], [0, 0, 0, 0, 0, 0, 0, 0], [0, 0], [0, 0, 0, 0, 0, 0, 0, 0], [0, 0], [0, 0, 0, 0, 0, 0, 0, 0], [0, 0, 0], [0], [0, 0, 0, 0], [0, 0, 0], [0, 0, 0, 0, 0, 0, 0, 0, 0, 0, 0], [0, 0, 0, 0, 0, 0, 0, 0, 0, 0, 0, 0, 0, 0, 0, 0, 0, 0, 0], [0], [0], [0, 0, 0], [0, 0, 0], [0], [0, 0, 0], [0, 0, 0], [0, 0, 0, 0, 0, 0, 0, 0, 0], [0], [0, 0]], [([2], []), ([], []), ([0, 1, 13], []), ([13], []), ([0, 1, 14], []), ([14], []), ([1], []), ([], []), ([15], []), ([15], []), ([], []), ([6, 7, 11, 21], []), ([16], []), ([], []), ([17], []), ([17], []), ([18], []), ([18], []), ([], []), ([], []), ([20], []), ([19], []), ([10], []), ([0, 3, 4, 5, 6, 7, 8, 9, 20], []), ([8, 9, 19], []), ([], []), ([12, 22], []), ([21], []), ([], []), ([23], []), ([22], []), ([0, 3, 4, 5, 6, 7, 11, 12, 23], []), ([0, 3, 4, 5, 16], [])], []⟩
def ir_undertowlaw21_DepsBehindl0 : C :=
 .seq (.seq (.reg [⟨.mv (.s 9), none⟩,
   ⟨.mv (.s 8), none⟩,
   ⟨.len 1 (.r 1), none⟩,
   ⟨.bin .lss (.r 0) (.r 2), none⟩] [] [] [(19, 3, none)])
 (.cond (.s 19) (.skip)
  (.exit 2)))
 (.seq (.block 3 (.seq (.seq (.reg [⟨.mv (.s 0), none⟩,
    ⟨.mv (.s 8), none⟩,
    ⟨.mv (.s 9), none⟩,
    ⟨.iaS 2 (.r 1) (.r 2), none⟩,
    ⟨.iaA 2 1 (.r 3) (.c (.int .i64 0)), none⟩,
    ⟨.load 0 false 1 (.r 4), none⟩,
    ⟨.iaS 9 (.r 0) (.r 5), none⟩,
    ⟨.off 0 (.r 6), none⟩,
    ⟨.load 0 false 1 (.r 7), none⟩,
    ⟨.call .val n_undertowref05_Sort [(.r 8)], none⟩,
    ⟨.mv (.r 9), none⟩] [] [] [(10, 10, none)])
  (.drop [19] []))
  (.seq (.seq (.reg [⟨.mv (.s 8), none⟩,
    ⟨.mv (.s 9), none⟩,
    ⟨.iaS 2 (.r 0) (.r 1), none⟩,
    ⟨.iaA 2 1 (.r 2) (.c (.int .i64 0)), none⟩,
    ⟨.load 0 false 1 (.r 3), none⟩,
    ⟨.mv (.s 8), none⟩,
    ⟨.mv (.s 9), none⟩,
    ⟨.iaS 2 (.r 5) (.r 6), none⟩,
    ⟨.iaA 2 1 (.r 7) (.c (.int .i64 1)), none⟩,
    ⟨.load 0 false 1 (.r 8), none⟩,
    ⟨.bin .geq (.r 4) (.r 9), none⟩,
    ⟨.mv (.r 10), none⟩,
    ⟨.mv (.s 10), some (11, false)⟩,
    ⟨.bin .neq (.r 12) (.c (.int .i64 4)), some (11, false)⟩,
    ⟨.mv (.r 13), some (11, false)⟩,
    ⟨.mv (.s 10), some (14, true)⟩,
    ⟨.bin .lss (.r 15) (.c (.int .i64 10)), some (14, true)⟩,
    ⟨.pick (.r 14) (.r 16) (.c (.bool false)), some (11, false)⟩,
    ⟨.pick (.r 11) (.c (.bool true)) (.r 17), none⟩] [] [(2, 7), (2, 9), (4, 7), (4, 9)] [(20, 18, none)])
  (.drop [10] []))
  (.cond (.s 20) (.seq (.seq (.reg [⟨.mv (.c (.bool false)), none⟩] [] [] [(2, 0, none)])
   (.drop [0, 3, 4, 5, 6, 7, 8, 9, 20] []))
   (.ret))
   (.skip)))))
 (.seq (.reg [⟨.mv (.s 9), none⟩,
   ⟨.bin .add (.r 0) (.c (.int .i64 1)), none⟩,
   ⟨.mv (.r 1), none⟩] [] [] [(9, 2, none)])
 (.drop [20] [])))
def ir_undertowlaw21_DepsBehindl1 : C :=
 .seq (.seq (.reg [⟨.mv (.s 12), none⟩,
   ⟨.mv (.s 4), none⟩,
   ⟨.bin .lss (.r 0) (.r 1), none⟩] [] [] [(22, 2, none)])
 (.cond (.s 22) (.skip)
  (.exit 6)))
 (.seq (.block 7 (.seq (.seq (.reg [⟨.mv (.s 6), none⟩,
    ⟨.mv (.s 11), none⟩,
    ⟨.mv (.s 12), none⟩,
    ⟨.call .val n_rel_Rel_Has [(.r 0), (.r 1), (.r 2)], none⟩,
    ⟨.mv (.s 7), none⟩,
    ⟨.mv (.s 11), none⟩,
    ⟨.mv (.s 12), none⟩,
    ⟨.call .val n_rel_Rel_Has [(.r 4), (.r 5), (.r 6)], none⟩,
    ⟨.eqb true (.r 3) (.r 7), none⟩] [] [] [(23, 8, none)])
  (.drop [22] []))
  (.cond (.s 23) (.seq (.seq (.reg [⟨.mv (.c (.bool false)), none⟩] [] [] [(2, 0, none)])
   (.drop [0, 3, 4, 5, 6, 7, 11, 12, 23] []))
   (.ret))
   (.skip))))
 (.seq (.reg [⟨.mv (.s 12), none⟩,
   ⟨.bin .add (.r 0) (.c (.int .i64 1)), none⟩,
   ⟨.mv (.r 1), none⟩] [] [] [(12, 2, none)])
 (.drop [23] [])))
def ir_undertowlaw21_DepsBehindl2 : C :=
 .seq (.seq (.reg [⟨.mv (.s 11), none⟩,
   ⟨.mv (.s 4), none⟩,
   ⟨.bin .lss (.r 0) (.r 1), none⟩] [] [] [(21, 2, none)])
 (.cond (.s 21) (.skip)
  (.exit 4)))
 (.seq (.block 5 (.seq (.seq (.reg [⟨.mv (.c (.int .i64 0)), none⟩] [] [] [(12, 0, none)])
  (.drop [21] []))
  (.block 6 (.loop ir_undertowlaw21_DepsBehindl1))))
 (.seq (.reg [⟨.mv (.s 11), none⟩,
   ⟨.bin .add (.r 0) (.c (.int .i64 1)), none⟩,
   ⟨.mv (.r 1), none⟩] [] [] [(11, 2, none)])
 (.drop [12, 22] [])))
def ir_undertowlaw21_DepsBehindl3 : C :=
 .seq (.seq (.reg [⟨.mv (.s 5), none⟩,
   ⟨.bin .lss (.r 0) (.c (.int .i64 3)), none⟩] [] [] [(16, 1, none)])
 (.cond (.s 16) (.skip)
  (.exit 0)))
 (.seq (.block 1 (.seq (.seq (.reg [⟨.mv (.s 3), none⟩,
    ⟨.call .val n_deps_Address [(.r 0)], none⟩,
    ⟨.mv (.s 3), none⟩,
    ⟨.mv (.s 4), none⟩,
    ⟨.slc 27 (.r 2) none (some (.r 3)) none, none⟩,
    ⟨.call .val n_deps_Address [(.r 4)], none⟩,
    ⟨.mv (.r 1), none⟩,
    ⟨.mv (.r 5), none⟩] [] [(1, 4)] [(6, 6, none), (7, 7, none)])
  (.drop [16] []))
  (.seq (.seq (.reg [⟨.mv (.s 5), none⟩,
    ⟨.bin .eql (.r 0) (.c (.int .i64 1)), none⟩] [] [] [(17, 1, none)])
  (.cond (.s 17) (.seq (.reg [⟨.mv (.s 3), none⟩,
     ⟨.call .val n_deps_Data [(.r 0)], none⟩,
     ⟨.mv (.s 3), none⟩,
     ⟨.mv (.s 4), none⟩,
     ⟨.slc 27 (.r 2) none (some (.r 3)) none, none⟩,
     ⟨.call .val n_deps_Data [(.r 4)], none⟩,
     ⟨.mv (.r 1), none⟩,
     ⟨.mv (.r 5), none⟩] [] [(1, 4)] [(6, 6, none), (7, 7, none)])
   (.drop [17] []))
   (.skip)))
  (.seq (.seq (.seq (.reg [⟨.mv (.s 5), none⟩,
    ⟨.bin .eql (.r 0) (.c (.int .i64 2)), none⟩] [] [] [(18, 1, none)])
  (.drop [17] []))
  (.cond (.s 18) (.seq (.reg [⟨.mv (.s 3), none⟩,
     ⟨.call .val n_deps_Course [(.r 0)], none⟩,
     ⟨.mv (.s 3), none⟩,
     ⟨.mv (.s 4), none⟩,
     ⟨.slc 27 (.r 2) none (some (.r 3)) none, none⟩,
     ⟨.call .val n_deps_Course [(.r 4)], none⟩,
     ⟨.mv (.r 1), none⟩,
     ⟨.mv (.r 5), none⟩] [] [(1, 4)] [(6, 6, none), (7, 7, none)])
   (.drop [18] []))
   (.skip)))
  (.seq (.seq (.reg [⟨.mv (.s 6), none⟩,
    ⟨.call .val n_rel_Rel_Pairs [(.r 0)], none⟩,
    ⟨.mv (.r 1), none⟩] [] [] [(8, 2, none)])
  (.drop [18] []))
  (.seq (.seq (.reg [⟨.mv (.c (.int .i64 0)), none⟩] [] [] [(9, 0, none)])
  (.block 2 (.loop ir_undertowlaw21_DepsBehindl0)))
  (.seq (.seq (.reg [⟨.mv (.c (.int .i64 0)), none⟩] [] [] [(11, 0, none)])
  (.drop [8, 9, 19] []))
  (.block 4 (.loop ir_undertowlaw21_DepsBehindl2)))))))))
 (.seq (.reg [⟨.mv (.s 5), none⟩,
   ⟨.bin .add (.r 0) (.c (.int .i64 1)), none⟩,
   ⟨.mv (.r 1), none⟩] [] [] [(5, 2, none)])
 (.drop [6, 7, 11, 21] [])))
def ir_undertowlaw21_DepsBehind : Vm.Fn := ⟨[0, 1, 4, 5, 6, 7, 8, 9, 10, 11, 12, 13, 14, 16, 19, 28, 32, 42, 50, 62, 93, 96, 101, 112], 0, 0, [.slot 2],
 .seq (.seq (.reg [⟨.mv (.c (.bool false)), none⟩] [] [] [(2, 0, none)])
 (.drop [2] []))
 (.seq (.seq (.reg [⟨.call .val n_undertowlaw21_alive [], none⟩,
   ⟨.un .not (.r 0), none⟩] [] [] [(13, 1, none)])
 (.cond (.s 13) (.seq (.seq (.reg [⟨.mv (.c (.bool false)), none⟩] [] [] [(2, 0, none)])
  (.drop [0, 1, 13] []))
  (.ret))
  (.skip)))
 (.seq (.seq (.seq (.reg [⟨.mv (.s 0), none⟩,
   ⟨.len 1 (.r 0), none⟩,
   ⟨.bin .gtr (.r 1) (.c (.int .i64 60)), none⟩] [] [] [(14, 2, none)])
 (.drop [13] []))
 (.cond (.s 14) (.seq (.seq (.reg [⟨.call .val n_undertowlaw21_alive [], none⟩,
    ⟨.mv (.r 0), none⟩] [] [] [(2, 1, none)])
  (.drop [0, 1, 14] []))
  (.ret))
  (.skip)))
 (.seq (.seq (.reg [⟨.mv (.s 0), none⟩,
   ⟨.call .val n_undertowlaw21_retired [(.r 0)], none⟩,
   ⟨.mv (.r 1), none⟩] [] [] [(3, 2, none)])
 (.drop [14] []))
 (.seq (.seq (.reg [⟨.mv (.s 1), none⟩,
   ⟨.i2i .i64 (.r 0), none⟩,
   ⟨.mv (.r 1), none⟩] [] [] [(4, 2, none)])
 (.drop [1] []))
 (.seq (.seq (.reg [⟨.mv (.s 4), none⟩,
   ⟨.mv (.s 3), none⟩,
   ⟨.len 1 (.r 1), none⟩,
   ⟨.bin .gtr (.r 0) (.r 2), none⟩] [] [] [(15, 3, none)])
 (.cond (.s 15) (.seq (.reg [⟨.mv (.s 3), none⟩,
    ⟨.len 1 (.r 0), none⟩,
    ⟨.mv (.r 1), none⟩] [] [] [(4, 2, none)])
  (.drop [15] []))
  (.skip)))
 (.seq (.seq (.seq (.reg [⟨.mv (.c (.int .i64 0)), none⟩] [] [] [(5, 0, none)])
 (.drop [15] []))
 (.block 0 (.loop ir_undertowlaw21_DepsBehindl3)))
 (.seq (.seq (.reg [⟨.call .val n_undertowlaw21_alive [], none⟩,
   ⟨.mv (.r 0), none⟩] [] [] [(2, 1, none)])
 (.drop [0, 3, 4, 5, 16] []))
 (.ret))))))))⟩
/-- 6: undertow/undertowlaw21.DepsApart -/
def h6 : Vm.Hint := ⟨[0, 1, 2, 5, 6, 7, 8, 9, 10, 11, 12, 13, 14, 15, 16, 17, 18, 19, 20, 21, 23, 43, 50, 86, 92, 99, 104, 137], [5], [9], [[1, 0], [0, 0], [0], [0, 0, 0, 0], [0, 0, 0, 0, 0, 0, 0, 0, 0, 0, 0, 0, 0, 0, 0, 0, 0], [0, 0], [0, 0, 0], [0, 0, 0, 0], [0, 0, 0], [1], [0, 0, 0, 0, 2, 0], [0, 0, 1, 2, 0], [0, 0, 0, 0, 2, 0], [0, 0, 0, 0, 0, 0], [0, 0, 0, 0, 0, 0], [0, 0, 0, 0, 0, 0], [0, 0, 0, 0, 0, 0], [0], [0, 0, 0, 0], [0, 0, 0], [0], [0, 0, 0, 0], [0, 0, 0], [0, 0, 0, 0], [0, 0, 0], [0, 0, 0], [0, 0, 0], [0, 0, 0], [0, 0, 0, 0, 0, 0, 0, 0, 0, 0, 0, 0, 0, 0, 0, 0, 0, 0, 0, 0, 0, 0, 0, 0, 0, 0, 0, 0, 0, 0, 0], [0], [0, 0]], [([2, 4], []), ([], []), ([0, 1, 3, 20], [(true, 0)]), ([20], []), ([5], []), ([0, 1, 3, 21], [(true, 0)]), ([1, 21], []), ([], []), ([22], []), ([22], []), ([], []), ([3], [(true, 0)]), ([], []), ([0, 7], [(false, 0)]), ([], []), ([], []), ([9], []), ([], []), ([], []), ([17, 24], []), ([23], []), ([], []), ([27], []), ([24], []), ([], []), ([25], []), ([25], []), ([26], []), ([18, 19, 26], []), ([6, 8, 10, 11, 12, 13, 14, 15, 16, 17, 27], []), ([6, 8, 10, 11, 12, 13, 14, 15, 16, 23], [])], []⟩
def ir_undertowlaw21_DepsApartl0 : C :=
 .seq (.seq (.reg [⟨.mv (.s 17), none⟩,
   ⟨.mv (.s 8), none⟩,
   ⟨.len 1 (.r 1), none⟩,
   ⟨.bin .lss (.r 0) (.r 2), none⟩] [] [] [(24, 3, none)])
 (.cond (.s 24) (.skip)
  (.exit 2)))
 (.seq (.block 3 (.seq (.seq (.reg [⟨.mv (.s 16), none⟩,
    ⟨.mv (.s 17), none⟩,
    ⟨.mv (.r 0), none⟩,
    ⟨.mv (.r 1), none⟩] [] [] [(18, 2, none), (19, 3, none)])
  (.drop [24] []))
  (.seq (.seq (.reg [⟨.mv (.s 16), none⟩,
    ⟨.mv (.s 6), none⟩,
    ⟨.bin .geq (.r 0) (.r 1), none⟩] [] [] [(25, 2, none)])
  (.cond (.s 25) (.seq (.reg [⟨.mv (.s 18), none⟩,
     ⟨.bin .add (.r 0) (.c (.int .i64 1)), none⟩,
     ⟨.mv (.r 1), none⟩] [] [] [(18, 2, none)])
   (.drop [25] []))
   (.skip)))
  (.seq (.seq (.seq (.reg [⟨.mv (.s 17), none⟩,
    ⟨.mv (.s 6), none⟩,
    ⟨.bin .geq (.r 0) (.r 1), none⟩] [] [] [(26, 2, none)])
  (.drop [25] []))
  (.cond (.s 26) (.seq (.reg [⟨.mv (.s 19), none⟩,
     ⟨.bin .add (.r 0) (.c (.int .i64 1)), none⟩,
     ⟨.mv (.r 1), none⟩] [] [] [(19, 2, none)])
   (.drop [26] []))
   (.skip)))
  (.seq (.seq (.reg [⟨.mv (.s 10), none⟩,
    ⟨.mv (.s 16), none⟩,
    ⟨.mv (.s 17), none⟩,
    ⟨.call .val n_rel_Rel_Has [(.r 0), (.r 1), (.r 2)], none⟩,
    ⟨.mv (.s 11), none⟩,
    ⟨.mv (.s 18), none⟩,
    ⟨.mv (.s 19), none⟩,
    ⟨.call .val n_rel_Rel_Has [(.r 4), (.r 5), (.r 6)], none⟩,
    ⟨.eqb true (.r 3) (.r 7), none⟩,
    ⟨.mv (.r 8), none⟩,
    ⟨.mv (.s 12), some (9, false)⟩,
    ⟨.mv (.s 16), some (9, false)⟩,
    ⟨.mv (.s 17), some (9, false)⟩,
    ⟨.call .val n_rel_Rel_Has [(.r 10), (.r 11), (.r 12)], some (9, false)⟩,
    ⟨.mv (.s 13), some (9, false)⟩,
    ⟨.mv (.s 18), some (9, false)⟩,
    ⟨.mv (.s 19), some (9, false)⟩,
    ⟨.call .val n_rel_Rel_Has [(.r 14), (.r 15), (.r 16)], some (9, false)⟩,
    ⟨.eqb true (.r 13) (.r 17), some (9, false)⟩,
    ⟨.pick (.r 9) (.c (.bool true)) (.r 18), none⟩,
    ⟨.mv (.r 19), none⟩,
    ⟨.mv (.s 14), some (20, false)⟩,
    ⟨.mv (.s 16), some (20, false)⟩,
    ⟨.mv (.s 17), some (20, false)⟩,
    ⟨.call .val n_rel_Rel_Has [(.r 21), (.r 22), (.r 23)], some (20, false)⟩,
    ⟨.mv (.s 15), some (20, false)⟩,
    ⟨.mv (.s 18), some (20, false)⟩,
    ⟨.mv (.s 19), some (20, false)⟩,
    ⟨.call .val n_rel_Rel_Has [(.r 25), (.r 26), (.r 27)], some (20, false)⟩,
    ⟨.eqb true (.r 24) (.r 28), some (20, false)⟩,
    ⟨.pick (.r 20) (.c (.bool true)) (.r 29), none⟩] [] [] [(27, 30, none)])
  (.drop [18, 19, 26] []))
  (.cond (.s 27) (.seq (.seq (.reg [⟨.mv (.c (.bool false)), none⟩] [] [] [(4, 0, none)])
   (.drop [6, 8, 10, 11, 12, 13, 14, 15, 16, 17, 27] []))
   (.ret))
   (.skip)))))))
 (.seq (.reg [⟨.mv (.s 17), none⟩,
   ⟨.bin .add (.r 0) (.c (.int .i64 1)), none⟩,
   ⟨.mv (.r 1), none⟩] [] [] [(17, 2, none)])
 (.drop [27] [])))
def ir_undertowlaw21_DepsApartl1 : C :=
 .seq (.seq (.reg [⟨.mv (.s 16), none⟩,
   ⟨.mv (.s 8), none⟩,
   ⟨.len 1 (.r 1), none⟩,
   ⟨.bin .lss (.r 0) (.r 2), none⟩] [] [] [(23, 3, none)])
 (.cond (.s 23) (.skip)
  (.exit 0)))
 (.seq (.block 1 (.seq (.seq (.reg [⟨.mv (.c (.int .i64 0)), none⟩] [] [] [(17, 0, none)])
  (.drop [23] []))
  (.block 2 (.loop ir_undertowlaw21_DepsApartl0))))
 (.seq (.reg [⟨.mv (.s 16), none⟩,
   ⟨.bin .add (.r 0) (.c (.int .i64 1)), none⟩,
   ⟨.mv (.r 1), none⟩] [] [] [(16, 2, none)])
 (.drop [17, 24] [])))
def ir_undertowlaw21_DepsApart : Vm.Fn := ⟨[0, 1, 2, 5, 6, 7, 8, 9, 10, 11, 12, 13, 14, 15, 16, 17, 18, 19, 20, 21, 23, 43, 50, 86, 92, 99, 104, 137], 1, 1, [.slot 4],
 .seq (.seq (.reg [⟨.lbox 0 9 (.s 2), none⟩,
   ⟨.mv (.c (.bool false)), none⟩] [(true, 0)] [] [(3, 0, some 1), (4, 1, none)])
 (.drop [2, 4] []))
 (.seq (.seq (.reg [⟨.call .val n_undertowlaw21_alive [], none⟩,
   ⟨.un .not (.r 0), none⟩] [] [] [(20, 1, none)])
 (.cond (.s 20) (.seq (.seq (.reg [⟨.mv (.c (.bool false)), none⟩] [] [] [(4, 0, none)])
  (.drop [0, 1, 3, 20] [(true, 0)]))
  (.ret))
  (.skip)))
 (.seq (.seq (.reg [⟨.off 0 (.s 3), none⟩,
   ⟨.load 0 false 1 (.r 0), none⟩,
   ⟨.call .val n_undertowref05_Sort [(.r 1)], none⟩,
   ⟨.mv (.r 2), none⟩] [] [] [(5, 3, none)])
 (.drop [20] []))
 (.seq (.seq (.seq (.reg [⟨.mv (.s 0), none⟩,
   ⟨.len 1 (.r 0), none⟩,
   ⟨.bin .gtr (.r 1) (.c (.int .i64 60)), none⟩,
   ⟨.mv (.r 2), none⟩,
   ⟨.mv (.s 5), some (3, false)⟩,
   ⟨.bin .eql (.r 4) (.c (.int .i64 3)), some (3, false)⟩,
   ⟨.pick (.r 3) (.c (.bool true)) (.r 5), none⟩,
   ⟨.mv (.r 6), none⟩,
   ⟨.off 0 (.s 3), some (7, false)⟩,
   ⟨.load 0 false 1 (.r 8), some (7, false)⟩,
   ⟨.bin .eql (.r 9) (.c (.int .i64 4)), some (7, false)⟩,
   ⟨.pick (.r 7) (.c (.bool true)) (.r 10), none⟩,
   ⟨.mv (.r 11), none⟩,
   ⟨.load 0 true 9 (.s 3), some (12, false)⟩,
   ⟨.call .val n_undertowref05_Target [(.r 13)], some (12, false)⟩,
   ⟨.bin .neq (.r 14) (.c (.int .i64 0)), some (12, false)⟩,
   ⟨.pick (.r 12) (.c (.bool true)) (.r 15), none⟩] [] [] [(21, 16, none)])
 (.drop [5] []))
 (.cond (.s 21) (.seq (.seq (.reg [⟨.call .val n_undertowlaw21_alive [], none⟩,
    ⟨.mv (.r 0), none⟩] [] [] [(4, 1, none)])
  (.drop [0, 1, 3, 21] [(true, 0)]))
  (.ret))
  (.skip)))
 (.seq (.seq (.reg [⟨.mv (.s 1), none⟩,
   ⟨.i2i .i64 (.r 0), none⟩,
   ⟨.mv (.r 1), none⟩] [] [] [(6, 2, none)])
 (.drop [1, 21] []))
 (.seq (.seq (.reg [⟨.mv (.s 6), none⟩,
   ⟨.mv (.s 0), none⟩,
   ⟨.len 1 (.r 1), none⟩,
   ⟨.bin .gtr (.r 0) (.r 2), none⟩] [] [] [(22, 3, none)])
 (.cond (.s 22) (.seq (.reg [⟨.mv (.s 0), none⟩,
    ⟨.len 1 (.r 0), none⟩,
    ⟨.mv (.r 1), none⟩] [] [] [(6, 2, none)])
  (.drop [22] []))
  (.skip)))
 (.seq (.seq (.reg [⟨.onil 0, none⟩] [(false, 0)] [] [(7, 0, some 0)])
 (.drop [22] []))
 (.seq (.reg [⟨.mv (.s 7), none⟩,
   ⟨.mv (.s 0), none⟩,
   ⟨.mv (.s 6), none⟩,
   ⟨.slc 9 (.r 1) none (some (.r 2)) none, none⟩,
   ⟨.app 2 9 64 (.r 0) (.r 3), none⟩,
   ⟨.mv (.r 4), none⟩] [] [] [(7, 5, some 0)])
 (.seq (.seq (.reg [⟨.mv (.s 7), none⟩,
   ⟨.load 0 true 9 (.s 3), none⟩,
   ⟨.lit 1 9 [[.int .i64 0, .int .i64 0, .int .i64 0, .int .i64 0, .int .i64 0, .bool false, .bool false, .int .i64 0, .int .i64 0]] [(0, (.r 1))], none⟩,
   ⟨.app 2 9 64 (.r 0) (.r 2), none⟩,
   ⟨.mv (.r 3), none⟩] [] [] [(7, 4, some 0)])
 (.drop [3] [(true, 0)]))
 (.seq (.reg [⟨.mv (.s 7), none⟩,
   ⟨.mv (.s 0), none⟩,
   ⟨.mv (.s 6), none⟩,
   ⟨.slc 9 (.r 1) (some (.r 2)) none none, none⟩,
   ⟨.app 2 9 64 (.r 0) (.r 3), none⟩,
   ⟨.mv (.r 4), none⟩] [] [] [(7, 5, some 0)])
 (.seq (.seq (.reg [⟨.mv (.s 0), none⟩,
   ⟨.call .val n_undertowlaw21_retired [(.r 0)], none⟩,
   ⟨.mv (.s 7), none⟩,
   ⟨.call .val n_undertowlaw21_retired [(.r 2)], none⟩,
   ⟨.mv (.r 1), none⟩,
   ⟨.mv (.r 3), none⟩] [] [] [(8, 4, none), (9, 5, none)])
 (.drop [0, 7] [(false, 0)]))
 (.seq (.reg [⟨.mv (.s 8), none⟩,
   ⟨.call .val n_deps_Address [(.r 0)], none⟩,
   ⟨.mv (.s 9), none⟩,
   ⟨.call .val n_deps_Address [(.r 2)], none⟩,
   ⟨.mv (.r 1), none⟩,
   ⟨.mv (.r 3), none⟩] [] [] [(10, 4, none), (11, 5, none)])
 (.seq (.reg [⟨.mv (.s 8), none⟩,
   ⟨.call .val n_deps_Course [(.r 0)], none⟩,
   ⟨.mv (.s 9), none⟩,
   ⟨.call .val n_deps_Course [(.r 2)], none⟩,
   ⟨.mv (.r 1), none⟩,
   ⟨.mv (.r 3), none⟩] [] [] [(12, 4, none), (13, 5, none)])
 (.seq (.seq (.reg [⟨.mv (.s 8), none⟩,
   ⟨.call .val n_deps_Data [(.r 0)], none⟩,
   ⟨.mv (.s 9), none⟩,
   ⟨.call .val n_deps_Data [(.r 2)], none⟩,
   ⟨.mv (.r 1), none⟩,
   ⟨.mv (.r 3), none⟩] [] [] [(14, 4, none), (15, 5, none)])
 (.drop [9] []))
 (.seq (.seq (.reg [⟨.mv (.c (.int .i64 0)), none⟩] [] [] [(16, 0, none)])
 (.block 0 (.loop ir_undertowlaw21_DepsApartl1)))
 (.seq (.seq (.reg [⟨.call .val n_undertowlaw21_alive [], none⟩,
   ⟨.mv (.r 0), none⟩] [] [] [(4, 1, none)])
 (.drop [6, 8, 10, 11, 12, 13, 14, 15, 16, 23] []))
 (.ret))))))))))))))))⟩
/-- 7: undertow/undertowlaw21.alive -/
def h7 : Vm.Hint := ⟨[0, 1, 2], [], [], [[0], [0, 0, 0, 0, 0, 0, 0, 0, 0, 0, 0], [0, 0, 0], [0, 0, 0, 0, 0, 0, 0, 0, 0, 0, 0, 0, 0, 0, 0, 0, 0, 0, 0, 0, 0, 0, 0, 0, 0, 0, 0, 0, 0, 0, 0, 0, 0, 0]], [([0], []), ([], []), ([], []), ([1, 2], [])], []⟩
def ir_undertowlaw21_alive : Vm.Fn := ⟨[0, 1, 2], 0, 0, [.slot 0],
 .seq (.seq (.reg [⟨.mv (.c (.bool false)), none⟩] [] [] [(0, 0, none)])
 (.drop [0] []))
 (.seq (.reg [⟨.build [.int .i64 0, .int .i64 0, .int .i64 0, .int .i64 0, .int .i64 0, .bool false, .bool false, .int .i64 0, .int .i64 0] [(0, 1, (.c (.int .i64 13))), (1, 1, (.c (.int .i64 1)))], none⟩,
   ⟨.build [.int .u64 0, .int .i64 0, .int .i64 0, .int .i64 0, .int .i64 0, .int .i64 0, .bool false, .bool false, .int .i64 0, .int .i64 0, .int .i64 0, .int .u64 0, .int .u64 0, .int .u64 0, .int .u64 0, .bool false] [(1, 9, (.r 0))], none⟩,
   ⟨.build [.int .u64 0, .int .i64 0, .int .i64 0, .int .i64 0, .int .i64 0, .int .i64 0, .bool false, .bool false, .int .i64 0, .int .i64 0, .int .i64 0, .int .u64 0, .int .u64 0, .int .u64 0, .int .u64 0, .bool false, .int .i64 0, .flt 0, .int .i64 0, .int .i64 0, .int .i64 0, .int .i64 0, .int .i64 0, .int .i64 0, .int .i64 0, .int .i64 0, .int .i64 0] [(0, 16, (.r 1))], none⟩,
   ⟨.build [.int .i64 0, .int .i64 0, .int .i64 0, .int .i64 0, .int .i64 0, .bool false, .bool false, .int .i64 0, .int .i64 0] [(0, 1, (.c (.int .i64 22))), (1, 1, (.c (.int .i64 2))), (2, 1, (.c (.int .i64 1)))], none⟩,
   ⟨.build [.int .u64 0, .int .i64 0, .int .i64 0, .int .i64 0, .int .i64 0, .int .i64 0, .bool false, .bool false, .int .i64 0, .int .i64 0, .int .i64 0, .int .u64 0, .int .u64 0, .int .u64 0, .int .u64 0, .bool false] [(1, 9, (.r 3))], none⟩,
   ⟨.build [.int .u64 0, .int .i64 0, .int .i64 0, .int .i64 0, .int .i64 0, .int .i64 0, .bool false, .bool false, .int .i64 0, .int .i64 0, .int .i64 0, .int .u64 0, .int .u64 0, .int .u64 0, .int .u64 0, .bool false, .int .i64 0, .flt 0, .int .i64 0, .int .i64 0, .int .i64 0, .int .i64 0, .int .i64 0, .int .i64 0, .int .i64 0, .int .i64 0, .int .i64 0] [(0, 16, (.r 4))], none⟩,
   ⟨.build [.int .i64 0, .int .i64 0, .int .i64 0, .int .i64 0, .int .i64 0, .bool false, .bool false, .int .i64 0, .int .i64 0] [(0, 1, (.c (.int .i64 20))), (2, 1, (.c (.int .i64 2))), (3, 1, (.c (.int .i64 3)))], none⟩,
   ⟨.build [.int .u64 0, .int .i64 0, .int .i64 0, .int .i64 0, .int .i64 0, .int .i64 0, .bool false, .bool false, .int .i64 0, .int .i64 0, .int .i64 0, .int .u64 0, .int .u64 0, .int .u64 0, .int .u64 0, .bool false] [(1, 9, (.r 6))], none⟩,
   ⟨.build [.int .u64 0, .int .i64 0, .int .i64 0, .int .i64 0, .int .i64 0, .int .i64 0, .bool false, .bool false, .int .i64 0, .int .i64 0, .int .i64 0, .int .u64 0, .int .u64 0, .int .u64 0, .int .u64 0, .bool false, .int .i64 0, .flt 0, .int .i64 0, .int .i64 0, .int .i64 0, .int .i64 0, .int .i64 0, .int .i64 0, .int .i64 0, .int .i64 0, .int .i64 0] [(0, 16, (.r 7))], none⟩,
   ⟨.lit 0 27 [[.int .u64 0, .int .i64 0, .int .i64 0, .int .i64 0, .int .i64 0, .int .i64 0, .bool false, .bool false, .int .i64 0, .int .i64 0, .int .i64 0, .int .u64 0, .int .u64 0, .int .u64 0, .int .u64 0, .bool false, .int .i64 0, .flt 0, .int .i64 0, .int .i64 0, .int .i64 0, .int .i64 0, .int .i64 0, .int .i64 0, .int .i64 0, .int .i64 0, .int .i64 0], [.int .u64 0, .int .i64 0, .int .i64 0, .int .i64 0, .int .i64 0, .int .i64 0, .bool false, .bool false, .int .i64 0, .int .i64 0, .int .i64 0, .int .u64 0, .int .u64 0, .int .u64 0, .int .u64 0, .bool false, .int .i64 0, .flt 0, .int .i64 0, .int .i64 0, .int .i64 0, .int .i64 0, .int .i64 0, .int .i64 0, .int .i64 0, .int .i64 0, .int .i64 0], [.int .u64 0, .int .i64 0, .int .i64 0, .int .i64 0, .int .i64 0, .int .i64 0, .bool false, .bool false, .int .i64 0, .int .i64 0, .int .i64 0, .int .u64 0, .int .u64 0, .int .u64 0, .int .u64 0, .bool false, .int .i64 0, .flt 0, .int .i64 0, .int .i64 0, .int .i64 0, .int .i64 0, .int .i64 0, .int .i64 0, .int .i64 0, .int .i64 0, .int .i64 0]] [(0, (.r 2)), (1, (.r 5)), (2, (.r 8))], none⟩,
   ⟨.mv (.r 9), none⟩] [] [] [(1, 10, none)])
 (.seq (.reg [⟨.mv (.s 1), none⟩,
   ⟨.call .val n_deps_Address [(.r 0)], none⟩,
   ⟨.mv (.r 1), none⟩] [] [] [(2, 2, none)])
 (.seq (.seq (.reg [⟨.mv (.s 2), none⟩,
   ⟨.call .val n_rel_Rel_Has [(.r 0), (.c (.int .i64 0)), (.c (.int .i64 2))], none⟩,
   ⟨.mv (.r 1), none⟩,
   ⟨.mv (.s 2), some (2, true)⟩,
   ⟨.call .val n_rel_Rel_Pairs [(.r 3)], some (2, true)⟩,
   ⟨.len 1 (.r 4), some (2, true)⟩,
   ⟨.bin .eql (.r 5) (.c (.int .i64 1)), some (2, true)⟩,
   ⟨.pick (.r 2) (.r 6) (.c (.bool false)), none⟩,
   ⟨.mv (.r 7), none⟩,
   ⟨.mv (.s 1), some (8, true)⟩,
   ⟨.call .val n_deps_Data [(.r 9)], some (8, true)⟩,
   ⟨.call .val n_rel_Rel_Len [(.r 10)], some (8, true)⟩,
   ⟨.bin .eql (.r 11) (.c (.int .i64 3)), some (8, true)⟩,
   ⟨.pick (.r 8) (.r 12) (.c (.bool false)), none⟩,
   ⟨.mv (.r 13), none⟩,
   ⟨.mv (.s 1), some (14, true)⟩,
   ⟨.call .val n_deps_Data [(.r 15)], some (14, true)⟩,
   ⟨.call .val n_rel_Rel_Pairs [(.r 16)], some (14, true)⟩,
   ⟨.len 1 (.r 17), some (14, true)⟩,
   ⟨.bin .eql (.r 18) (.c (.int .i64 0)), some (14, true)⟩,
   ⟨.pick (.r 14) (.r 19) (.c (.bool false)), none⟩,
   ⟨.mv (.r 20), none⟩,
   ⟨.mv (.s 1), some (21, true)⟩,
   ⟨.call .val n_deps_Roots [(.r 22), (.c (.int .i64 2)), (.c (.int .i64 2))], some (21, true)⟩,
   ⟨.lit 0 1 [[.int .i64 0]] [(0, (.c (.int .i64 0)))], some (21, true)⟩,
   ⟨.call .val n_undertowref02_SameInts [(.r 23), (.r 24)], some (21, true)⟩,
   ⟨.pick (.r 21) (.r 25) (.c (.bool false)), none⟩,
   ⟨.mv (.r 26), none⟩,
   ⟨.mv (.s 1), some (27, true)⟩,
   ⟨.call .val n_deps_Course [(.r 28)], some (27, true)⟩,
   ⟨.call .val n_rel_Rel_Len [(.r 29)], some (27, true)⟩,
   ⟨.bin .eql (.r 30) (.c (.int .i64 3)), some (27, true)⟩,
   ⟨.pick (.r 27) (.r 31) (.c (.bool false)), none⟩,
   ⟨.mv (.r 32), none⟩] [] [] [(0, 33, none)])
 (.drop [1, 2] []))
 (.ret))))⟩
/-- 8: undertow/deps.Address -/
def h8 : Vm.Hint := ⟨[0, 2], [], [], [[0], [0, 1, 0]], [([1], []), ([0], [])], []⟩
def ir_deps_Address : Vm.Fn := ⟨[0, 2], 0, 0, [.slot 1],
 .seq (.seq (.reg [⟨.mv (.c (.nilp)), none⟩] [] [] [(1, 0, none)])
 (.drop [1] []))
 (.seq (.seq (.reg [⟨.mv (.s 0), none⟩,
   ⟨.call .heap n_deps_along [(.r 0), (.c (.fn 23 [] []))], none⟩,
   ⟨.mv (.r 1), none⟩] [] [] [(1, 2, none)])
 (.drop [0] []))
 (.ret))⟩
/-- 9: undertow/undertowlaw21.retired -/
def h9 : Vm.Hint := ⟨[0, 2, 3, 4, 8], [], [3], [[0], [1], [0], [0, 0, 0, 0], [0, 0, 0], [0, 0, 0, 0, 0, 0, 0, 1, 2, 0], [0, 0]], [([1], []), ([], []), ([], []), ([], []), ([], []), ([4], []), ([0, 2, 3, 4], [(false, 0)])], []⟩
def ir_undertowlaw21_retiredl0 : C :=
 .seq (.seq (.reg [⟨.mv (.s 3), none⟩,
   ⟨.mv (.s 0), none⟩,
   ⟨.len 1 (.r 1), none⟩,
   ⟨.bin .lss (.r 0) (.r 2), none⟩] [] [] [(4, 3, none)])
 (.cond (.s 4) (.skip)
  (.exit 0)))
 (.seq (.block 1 (.seq (.reg [⟨.mv (.s 2), none⟩,
    ⟨.mv (.s 0), none⟩,
    ⟨.mv (.s 3), none⟩,
    ⟨.iaS 9 (.r 1) (.r 2), none⟩,
    ⟨.load 0 true 9 (.r 3), none⟩,
    ⟨.build [.int .u64 0, .int .i64 0, .int .i64 0, .int .i64 0, .int .i64 0, .int .i64 0, .bool false, .bool false, .int .i64 0, .int .i64 0, .int .i64 0, .int .u64 0, .int .u64 0, .int .u64 0, .int .u64 0, .bool false] [(1, 9, (.r 4))], none⟩,
    ⟨.build [.int .u64 0, .int .i64 0, .int .i64 0, .int .i64 0, .int .i64 0, .int .i64 0, .bool false, .bool false, .int .i64 0, .int .i64 0, .int .i64 0, .int .u64 0, .int .u64 0, .int .u64 0, .int .u64 0, .bool false, .int .i64 0, .flt 0, .int .i64 0, .int .i64 0, .int .i64 0, .int .i64 0, .int .i64 0, .int .i64 0, .int .i64 0, .int .i64 0, .int .i64 0] [(0, 16, (.r 5))], none⟩,
    ⟨.lit 1 27 [[.int .u64 0, .int .i64 0, .int .i64 0, .int .i64 0, .int .i64 0, .int .i64 0, .bool false, .bool false, .int .i64 0, .int .i64 0, .int .i64 0, .int .u64 0, .int .u64 0, .int .u64 0, .int .u64 0, .bool false, .int .i64 0, .flt 0, .int .i64 0, .int .i64 0, .int .i64 0, .int .i64 0, .int .i64 0, .int .i64 0, .int .i64 0, .int .i64 0, .int .i64 0]] [(0, (.r 6))], none⟩,
    ⟨.app 2 27 208 (.r 0) (.r 7), none⟩,
    ⟨.mv (.r 8), none⟩] [] [] [(2, 9, some 0)])
  (.drop [4] [])))
 (.reg [⟨.mv (.s 3), none⟩,
   ⟨.bin .add (.r 0) (.c (.int .i64 1)), none⟩,
   ⟨.mv (.r 1), none⟩] [] [] [(3, 2, none)]))
def ir_undertowlaw21_retired : Vm.Fn := ⟨[0, 2, 3, 4, 8], 0, 1, [.slot 1],
 .seq (.seq (.reg [⟨.mv (.c (.nils)), none⟩] [] [] [(1, 0, none)])
 (.drop [1] []))
 (.seq (.reg [⟨.onil 0, none⟩] [(false, 0)] [] [(2, 0, some 0)])
 (.seq (.seq (.reg [⟨.mv (.c (.int .i64 0)), none⟩] [] [] [(3, 0, none)])
 (.block 0 (.loop ir_undertowlaw21_retiredl0)))
 (.seq (.seq (.reg [⟨.mv (.s 2), none⟩,
   ⟨.mv (.r 0), none⟩] [] [] [(1, 1, none)])
 (.drop [0, 2, 3, 4] [(false, 0)]))
 (.ret))))⟩
/-- 10: undertow/deps.Course -/
def h10 : Vm.Hint := ⟨[0, 2, 3], [], [], [[0], [0], [0, 0, 1, 0]], [([1], []), ([], []), ([0, 2], [])], []⟩
def ir_deps_Course : Vm.Fn := ⟨[0, 2, 3], 0, 0, [.slot 1],
 .seq (.seq (.reg [⟨.mv (.c (.nilp)), none⟩] [] [] [(1, 0, none)])
 (.drop [1] []))
 (.seq (.reg [⟨.halloc [.int .u64 0, .int .u64 0, .int .u64 0, .int .u64 0, .int .u64 0, .int .u64 0, .int .u64 0, .int .u64 0], none⟩] [] [] [(2, 0, none)])
 (.seq (.seq (.reg [⟨.mv (.s 0), none⟩,
   ⟨.mkfn 27 [] [(.s 2)], none⟩,
   ⟨.call .heap n_deps_along [(.r 0), (.r 1)], none⟩,
   ⟨.mv (.r 2), none⟩] [] [] [(1, 3, none)])
 (.drop [0, 2] []))
 (.ret)))⟩
/-- 11: undertow/deps.Data -/
def h11 : Vm.Hint := ⟨[0, 2], [], [], [[0], [0, 1, 0]], [([1], []), ([0], [])], []⟩
def ir_deps_Data : Vm.Fn := ⟨[0, 2], 0, 0, [.slot 1],
 .seq (.seq (.reg [⟨.mv (.c (.nilp)), none⟩] [] [] [(1, 0, none)])
 (.drop [1] []))
 (.seq (.seq (.reg [⟨.mv (.s 0), none⟩,
   ⟨.call .heap n_deps_along [(.r 0), (.c (.fn 31 [] []))], none⟩,
   ⟨.mv (.r 1), none⟩] [] [] [(1, 2, none)])
 (.drop [0] []))
 (.ret))⟩
/-- 12: undertow/undertowlaw21.same -/
def h12 : Vm.Hint := ⟨[0, 1, 4, 5, 6, 11, 15, 21, 35], [], [], [[0], [0, 0, 0, 0, 0], [0], [0], [0, 0, 0, 0], [0, 0, 0], [0], [0, 0, 0, 0], [0, 0, 0], [0, 0, 0, 0, 0, 0, 0, 0, 0, 0, 0, 0], [0], [0]], [([2], []), ([], []), ([0, 1, 5], []), ([5], []), ([], []), ([4, 7], []), ([6], []), ([], []), ([8], []), ([7], []), ([0, 1, 3, 4, 8], []), ([0, 1, 3, 6], [])], []⟩
def ir_undertowlaw21_samel0 : C :=
 .seq (.seq (.reg [⟨.mv (.s 4), none⟩,
   ⟨.mv (.s 1), none⟩,
   ⟨.len 1 (.r 1), none⟩,
   ⟨.bin .lss (.r 0) (.r 2), none⟩] [] [] [(7, 3, none)])
 (.cond (.s 7) (.skip)
  (.exit 2)))
 (.seq (.block 3 (.seq (.seq (.reg [⟨.mv (.s 0), none⟩,
    ⟨.mv (.s 3), none⟩,
    ⟨.mv (.s 4), none⟩,
    ⟨.call .val n_rel_Rel_Has [(.r 0), (.r 1), (.r 2)], none⟩,
    ⟨.mv (.s 1), none⟩,
    ⟨.mv (.s 3), none⟩,
    ⟨.iaS 1 (.r 4) (.r 5), none⟩,
    ⟨.load 0 false 1 (.r 6), none⟩,
    ⟨.mv (.s 4), none⟩,
    ⟨.iaS 1 (.r 7) (.r 8), none⟩,
    ⟨.load 0 false 1 (.r 9), none⟩,
    ⟨.eqb true (.r 3) (.r 10), none⟩] [] [(3, 6), (3, 7), (3, 9), (3, 10)] [(8, 11, none)])
  (.drop [7] []))
  (.cond (.s 8) (.seq (.seq (.reg [⟨.mv (.c (.bool false)), none⟩] [] [] [(2, 0, none)])
   (.drop [0, 1, 3, 4, 8] []))
   (.ret))
   (.skip))))
 (.seq (.reg [⟨.mv (.s 4), none⟩,
   ⟨.bin .add (.r 0) (.c (.int .i64 1)), none⟩,
   ⟨.mv (.r 1), none⟩] [] [] [(4, 2, none)])
 (.drop [8] [])))
def ir_undertowlaw21_samel1 : C :=
 .seq (.seq (.reg [⟨.mv (.s 3), none⟩,
   ⟨.mv (.s 1), none⟩,
   ⟨.len 1 (.r 1), none⟩,
   ⟨.bin .lss (.r 0) (.r 2), none⟩] [] [] [(6, 3, none)])
 (.cond (.s 6) (.skip)
  (.exit 0)))
 (.seq (.block 1 (.seq (.seq (.reg [⟨.mv (.c (.int .i64 0)), none⟩] [] [] [(4, 0, none)])
  (.drop [6] []))
  (.block 2 (.loop ir_undertowlaw21_samel0))))
 (.seq (.reg [⟨.mv (.s 3), none⟩,
   ⟨.bin .add (.r 0) (.c (.int .i64 1)), none⟩,
   ⟨.mv (.r 1), none⟩] [] [] [(3, 2, none)])
 (.drop [4, 7] [])))
def ir_undertowlaw21_same : Vm.Fn := ⟨[0, 1, 4, 5, 6, 11, 15, 21, 35], 0, 0, [.slot 2],
 .seq (.seq (.reg [⟨.mv (.c (.bool false)), none⟩] [] [] [(2, 0, none)])
 (.drop [2] []))
 (.seq (.seq (.reg [⟨.mv (.s 0), none⟩,
   ⟨.call .val n_rel_Rel_Len [(.r 0)], none⟩,
   ⟨.mv (.s 1), none⟩,
   ⟨.len 1 (.r 2), none⟩,
   ⟨.bin .neq (.r 1) (.r 3), none⟩] [] [] [(5, 4, none)])
 (.cond (.s 5) (.seq (.seq (.reg [⟨.mv (.c (.bool false)), none⟩] [] [] [(2, 0, none)])
  (.drop [0, 1, 5] []))
  (.ret))
  (.skip)))
 (.seq (.seq (.seq (.reg [⟨.mv (.c (.int .i64 0)), none⟩] [] [] [(3, 0, none)])
 (.drop [5] []))
 (.block 0 (.loop ir_undertowlaw21_samel1)))
 (.seq (.seq (.reg [⟨.mv (.c (.bool true)), none⟩] [] [] [(2, 0, none)])
 (.drop [0, 1, 3, 6] []))
 (.ret))))⟩
/-- 13: undertow/undertowref21.Hang -/
def h13 : Vm.Hint := ⟨[0, 1, 4, 5, 6, 7, 8, 9, 10, 11, 12, 13, 14, 15, 16, 17, 24, 52, 58, 85, 91, 115, 121, 132, 140], [7, 8], [], [[0], [0, 0, 1, 0], [0], [0, 0, 0, 0], [0, 0, 0], [0, 0, 0, 1, 0], [0, 0, 0, 0, 0, 0, 2, 0], [0, 0, 0, 0], [0, 0, 0, 0, 0, 0, 0, 0], [0, 0, 0, 0, 0, 0, 0, 0], [0], [0, 0, 0, 0, 0, 0], [0, 0, 0], [0, 0, 0, 0, 0, 0, 0, 0, 0, 0, 0, 0], [0, 0, 0, 0, 0, 0, 0, 0, 0, 0, 0, 0, 0, 0], [0], [0, 0, 0, 0, 0, 0], [0, 0, 0], [0, 0, 0, 0, 0, 0, 0, 0, 0, 0, 0, 0], [0, 0, 0, 0, 0, 0, 0, 0, 0, 0, 0], [0, 0, 0], [0], [0, 0, 0, 0], [0, 0, 0], [0], [0, 0, 0, 0, 0, 0, 0, 0, 0], [0, 0, 0], [0, 0, 0], [0, 0, 0, 0], [0, 0, 0], [0, 0, 0, 0, 0, 0, 0, 0, 0, 0, 0, 0, 0, 0, 0], [0, 0]], [([2], []), ([], []), ([], []), ([], []), ([5, 6, 12, 13, 21, 22], [(true, 0), (true, 1)]), ([16], []), ([], []), ([], []), ([], []), ([], []), ([17], []), ([], []), ([], []), ([18], []), ([8, 10, 17, 18], []), ([19], []), ([], []), ([], []), ([20], []), ([7, 9, 11, 19, 20], []), ([6, 21], [(true, 1)]), ([], []), ([], []), ([14, 23], []), ([22], []), ([], []), ([15, 24], []), ([23], []), ([], []), ([], []), ([24], []), ([0, 1, 3, 4, 16], [])], []⟩
def ir_undertowref21_Hangl0 : C :=
 .seq (.seq (.reg [⟨.mv (.s 10), none⟩,
   ⟨.mv (.s 8), none⟩,
   ⟨.iaA 32 1 (.s 5) (.r 1), none⟩,
   ⟨.load 0 false 1 (.r 2), none⟩,
   ⟨.len 1 (.r 3), none⟩,
   ⟨.bin .lss (.r 0) (.r 4), none⟩] [] [] [(18, 5, none)])
 (.cond (.s 18) (.skip)
  (.exit 2)))
 (.seq (.block 3 (.seq (.reg [⟨.mv (.s 3), none⟩,
    ⟨.mv (.s 8), none⟩,
    ⟨.iaA 32 1 (.s 5) (.r 1), none⟩,
    ⟨.load 0 false 1 (.r 2), none⟩,
    ⟨.mv (.s 10), none⟩,
    ⟨.iaS 1 (.r 3) (.r 4), none⟩,
    ⟨.load 0 false 1 (.r 5), none⟩,
    ⟨.iaS 1 (.r 0) (.r 6), none⟩,
    ⟨.load 0 false 1 (.r 7), none⟩,
    ⟨.mv (.s 4), none⟩,
    ⟨.iaS 1 (.r 8) (.r 9), none⟩,
    ⟨.store 0 1 (.r 10) (.c (.bool true)), none⟩] [] [] [])
  (.drop [18] [])))
 (.reg [⟨.mv (.s 10), none⟩,
   ⟨.bin .add (.r 0) (.c (.int .i64 1)), none⟩,
   ⟨.mv (.r 1), none⟩] [] [] [(10, 2, none)]))
def ir_undertowref21_Hangl1 : C :=
 .seq (.seq (.reg [⟨.mv (.s 11), none⟩,
   ⟨.mv (.s 9), none⟩,
   ⟨.iaA 32 1 (.s 5) (.r 1), none⟩,
   ⟨.load 0 false 1 (.r 2), none⟩,
   ⟨.len 1 (.r 3), none⟩,
   ⟨.bin .lss (.r 0) (.r 4), none⟩] [] [] [(20, 5, none)])
 (.cond (.s 20) (.skip)
  (.exit 4)))
 (.seq (.block 5 (.seq (.reg [⟨.mv (.s 3), none⟩,
    ⟨.mv (.s 9), none⟩,
    ⟨.iaA 32 1 (.s 5) (.r 1), none⟩,
    ⟨.load 0 false 1 (.r 2), none⟩,
    ⟨.mv (.s 11), none⟩,
    ⟨.iaS 1 (.r 3) (.r 4), none⟩,
    ⟨.load 0 false 1 (.r 5), none⟩,
    ⟨.iaS 1 (.r 0) (.r 6), none⟩,
    ⟨.load 0 false 1 (.r 7), none⟩,
    ⟨.mv (.s 4), none⟩,
    ⟨.iaS 1 (.r 8) (.r 9), none⟩,
    ⟨.store 0 1 (.r 10) (.c (.bool true)), none⟩] [] [] [])
  (.drop [20] [])))
 (.reg [⟨.mv (.s 11), none⟩,
   ⟨.bin .add (.r 0) (.c (.int .i64 1)), none⟩,
   ⟨.mv (.r 1), none⟩] [] [] [(11, 2, none)]))
def ir_undertowref21_Hangl2 : C :=
 .seq (.seq (.reg [⟨.mv (.s 15), none⟩,
   ⟨.mv (.s 0), none⟩,
   ⟨.len 1 (.r 1), none⟩,
   ⟨.bin .lss (.r 0) (.r 2), none⟩] [] [] [(24, 3, none)])
 (.cond (.s 24) (.skip)
  (.exit 10)))
 (.seq (.block 11 (.seq (.reg [⟨.mv (.s 3), none⟩,
    ⟨.mv (.s 12), none⟩,
    ⟨.mv (.s 13), none⟩,
    ⟨.iaS 1 (.r 1) (.r 2), none⟩,
    ⟨.load 0 false 1 (.r 3), none⟩,
    ⟨.iaA 32 1 (.s 5) (.r 4), none⟩,
    ⟨.load 0 false 1 (.r 5), none⟩,
    ⟨.mv (.s 14), none⟩,
    ⟨.iaS 1 (.r 6) (.r 7), none⟩,
    ⟨.load 0 false 1 (.r 8), none⟩,
    ⟨.iaS 1 (.r 0) (.r 9), none⟩,
    ⟨.load 0 false 1 (.r 10), none⟩,
    ⟨.mv (.s 15), none⟩,
    ⟨.iaS 1 (.r 11) (.r 12), none⟩,
    ⟨.store 0 1 (.r 13) (.c (.bool true)), none⟩] [] [] [])
  (.drop [24] [])))
 (.reg [⟨.mv (.s 15), none⟩,
   ⟨.bin .add (.r 0) (.c (.int .i64 1)), none⟩,
   ⟨.mv (.r 1), none⟩] [] [] [(15, 2, none)]))
def ir_undertowref21_Hangl3 : C :=
 .seq (.seq (.reg [⟨.mv (.s 14), none⟩,
   ⟨.mv (.s 12), none⟩,
   ⟨.mv (.s 13), none⟩,
   ⟨.iaS 1 (.r 1) (.r 2), none⟩,
   ⟨.load 0 false 1 (.r 3), none⟩,
   ⟨.iaA 32 1 (.s 5) (.r 4), none⟩,
   ⟨.load 0 false 1 (.r 5), none⟩,
   ⟨.len 1 (.r 6), none⟩,
   ⟨.bin .lss (.r 0) (.r 7), none⟩] [] [] [(23, 8, none)])
 (.cond (.s 23) (.skip)
  (.exit 8)))
 (.seq (.block 9 (.seq (.seq (.reg [⟨.mv (.s 4), none⟩,
    ⟨.bin .add (.r 0) (.c (.int .i64 1)), none⟩,
    ⟨.mv (.r 1), none⟩] [] [] [(15, 2, none)])
  (.drop [23] []))
  (.block 10 (.loop ir_undertowref21_Hangl2))))
 (.seq (.reg [⟨.mv (.s 14), none⟩,
   ⟨.bin .add (.r 0) (.c (.int .i64 1)), none⟩,
   ⟨.mv (.r 1), none⟩] [] [] [(14, 2, none)])
 (.drop [15, 24] [])))
def ir_undertowref21_Hangl4 : C :=
 .seq (.seq (.reg [⟨.mv (.s 13), none⟩,
   ⟨.mv (.s 12), none⟩,
   ⟨.len 1 (.r 1), none⟩,
   ⟨.bin .lss (.r 0) (.r 2), none⟩] [] [] [(22, 3, none)])
 (.cond (.s 22) (.skip)
  (.exit 6)))
 (.seq (.block 7 (.seq (.seq (.reg [⟨.mv (.c (.int .i64 0)), none⟩] [] [] [(14, 0, none)])
  (.drop [22] []))
  (.block 8 (.loop ir_undertowref21_Hangl3))))
 (.seq (.reg [⟨.mv (.s 13), none⟩,
   ⟨.bin .add (.r 0) (.c (.int .i64 1)), none⟩,
   ⟨.mv (.r 1), none⟩] [] [] [(13, 2, none)])
 (.drop [14, 23] [])))
def ir_undertowref21_Hangl5 : C :=
 .seq (.seq (.reg [⟨.mv (.s 4), none⟩,
   ⟨.mv (.s 0), none⟩,
   ⟨.len 1 (.r 1), none⟩,
   ⟨.bin .lss (.r 0) (.r 2), none⟩] [] [] [(16, 3, none)])
 (.cond (.s 16) (.skip)
  (.exit 0)))
 (.seq (.block 1 (.seq (.seq (.reg [⟨.mv (.s 0), none⟩,
    ⟨.mv (.s 4), none⟩,
    ⟨.call .val n_undertowref21_Roots [(.r 0), (.r 1)], none⟩,
    ⟨.lalloc 0 [.nils, .nils, .nils, .nils, .nils, .nils, .nils, .nils, .nils, .nils, .nils, .nils, .nils, .nils, .nils, .nils, .nils, .nils, .nils, .nils, .nils, .nils, .nils, .nils, .nils, .nils, .nils, .nils, .nils, .nils, .nils, .nils], none⟩,
    ⟨.store 0 32 (.r 3) (.r 2), none⟩] [(true, 0)] [] [(5, 3, some 1)])
  (.drop [16] []))
  (.seq (.reg [⟨.mv (.s 0), none⟩,
    ⟨.mv (.s 4), none⟩,
    ⟨.iaS 27 (.r 0) (.r 1), none⟩,
    ⟨.off 0 (.r 2), none⟩,
    ⟨.off 1 (.r 3), none⟩,
    ⟨.load 0 true 9 (.r 4), none⟩,
    ⟨.lalloc 1 [.int .i64 0, .int .i64 0, .int .i64 0, .int .i64 0, .int .i64 0, .bool false, .bool false, .int .i64 0, .int .i64 0], none⟩,
    ⟨.store 0 9 (.r 6) (.r 5), none⟩] [(true, 1)] [] [(6, 6, some 3)])
  (.seq (.reg [⟨.off 0 (.s 6), none⟩,
    ⟨.load 0 false 1 (.r 0), none⟩,
    ⟨.call .val n_undertowref05_Sort [(.r 1)], none⟩,
    ⟨.mv (.r 2), none⟩] [] [] [(7, 3, none)])
  (.seq (.reg [⟨.off 2 (.s 6), none⟩,
    ⟨.load 0 false 1 (.r 0), none⟩,
    ⟨.call .val n_undertowref05_Register [(.r 1)], none⟩,
    ⟨.off 3 (.s 6), none⟩,
    ⟨.load 0 false 1 (.r 3), none⟩,
    ⟨.call .val n_undertowref05_Register [(.r 4)], none⟩,
    ⟨.mv (.r 2), none⟩,
    ⟨.mv (.r 5), none⟩] [] [(1, 4), (2, 4)] [(8, 6, none), (9, 7, none)])
  (.seq (.seq (.reg [⟨.mv (.s 1), none⟩,
    ⟨.bin .eql (.r 0) (.c (.int .i64 1)), none⟩,
    ⟨.mv (.r 1), none⟩,
    ⟨.off 0 (.s 6), some (2, true)⟩,
    ⟨.load 0 false 1 (.r 3), some (2, true)⟩,
    ⟨.call .val n_undertowref05_Size [(.r 4)], some (2, true)⟩,
    ⟨.bin .gtr (.r 5) (.c (.int .i64 0)), some (2, true)⟩,
    ⟨.pick (.r 2) (.r 6) (.c (.bool false)), none⟩] [] [] [(17, 7, none)])
  (.cond (.s 17) (.seq (.seq (.reg [⟨.mv (.c (.int .i64 0)), none⟩] [] [] [(10, 0, none)])
   (.drop [17] []))
   (.block 2 (.loop ir_undertowref21_Hangl0)))
   (.skip)))
  (.seq (.seq (.seq (.reg [⟨.mv (.s 1), none⟩,
    ⟨.bin .eql (.r 0) (.c (.int .i64 2)), none⟩,
    ⟨.mv (.r 1), none⟩,
    ⟨.mv (.s 7), some (2, true)⟩,
    ⟨.bin .eql (.r 3) (.c (.int .i64 5)), some (2, true)⟩,
    ⟨.mv (.r 4), some (2, true)⟩,
    ⟨.mv (.s 7), some (5, false)⟩,
    ⟨.bin .eql (.r 6) (.c (.int .i64 11)), some (5, false)⟩,
    ⟨.pick (.r 5) (.c (.bool true)) (.r 7), some (2, true)⟩,
    ⟨.mv (.r 8), some (2, true)⟩,
    ⟨.mv (.s 7), some (9, false)⟩,
    ⟨.bin .eql (.r 10) (.c (.int .i64 12)), some (9, false)⟩,
    ⟨.pick (.r 9) (.c (.bool true)) (.r 11), some (2, true)⟩,
    ⟨.pick (.r 2) (.r 12) (.c (.bool false)), none⟩] [] [] [(19, 13, none)])
  (.drop [8, 10, 17, 18] []))
  (.cond (.s 19) (.seq (.seq (.reg [⟨.mv (.c (.int .i64 0)), none⟩] [] [] [(11, 0, none)])
   (.drop [19] []))
   (.block 4 (.loop ir_undertowref21_Hangl1)))
   (.skip)))
  (.seq (.seq (.reg [⟨.mv (.s 1), none⟩,
    ⟨.bin .eql (.r 0) (.c (.int .i64 3)), none⟩,
    ⟨.mv (.r 1), none⟩,
    ⟨.mv (.s 7), some (2, true)⟩,
    ⟨.bin .eql (.r 3) (.c (.int .i64 3)), some (2, true)⟩,
    ⟨.mv (.r 4), some (2, true)⟩,
    ⟨.off 0 (.s 6), some (5, false)⟩,
    ⟨.load 0 false 1 (.r 6), some (5, false)⟩,
    ⟨.bin .eql (.r 7) (.c (.int .i64 4)), some (5, false)⟩,
    ⟨.pick (.r 5) (.c (.bool true)) (.r 8), some (2, true)⟩,
    ⟨.pick (.r 2) (.r 9) (.c (.bool false)), none⟩] [] [] [(21, 10, none)])
  (.drop [7, 9, 11, 19, 20] []))
  (.cond (.s 21) (.seq (.seq (.reg [⟨.load 0 true 9 (.s 6), none⟩,
     ⟨.call .val n_undertowref05_Sources [(.r 0)], none⟩,
     ⟨.mv (.r 1), none⟩] [] [] [(12, 2, none)])
   (.drop [6, 21] [(true, 1)]))
   (.seq (.reg [⟨.mv (.c (.int .i64 0)), none⟩] [] [] [(13, 0, none)])
   (.block 6 (.loop ir_undertowref21_Hangl4))))
   (.skip))))))))))
 (.seq (.reg [⟨.mv (.s 4), none⟩,
   ⟨.bin .add (.r 0) (.c (.int .i64 1)), none⟩,
   ⟨.mv (.r 1), none⟩] [] [] [(4, 2, none)])
 (.drop [5, 6, 12, 13, 21, 22] [(true, 0), (true, 1)])))
def ir_undertowref21_Hang : Vm.Fn := ⟨[0, 1, 4, 5, 6, 7, 8, 9, 10, 11, 12, 13, 14, 15, 16, 17, 24, 52, 58, 85, 91, 115, 121, 132, 140], 2, 0, [.slot 2],
 .seq (.seq (.reg [⟨.mv (.c (.nils)), none⟩] [] [] [(2, 0, none)])
 (.drop [2] []))
 (.seq (.reg [⟨.mv (.s 0), none⟩,
   ⟨.len 1 (.r 0), none⟩,
   ⟨.call .heap n_undertowref19_New [(.r 1)], none⟩,
   ⟨.mv (.r 2), none⟩] [] [] [(3, 3, none)])
 (.seq (.seq (.reg [⟨.mv (.c (.int .i64 0)), none⟩] [] [] [(4, 0, none)])
 (.block 0 (.loop ir_undertowref21_Hangl5)))
 (.seq (.seq (.reg [⟨.mv (.s 3), none⟩,
   ⟨.mv (.r 0), none⟩] [] [] [(2, 1, none)])
 (.drop [0, 1, 3, 4, 16] []))
 (.ret))))⟩
/-- 14: undertow/undertowref21.Roots -/
def h14 : Vm.Hint := ⟨[0, 1, 4, 5, 6, 7, 8, 9, 10, 11, 12, 15, 34, 40, 48, 59, 70], [4, 5], [], [[1], [2], [0], [0, 0, 0], [0, 0, 0], [0, 0, 0, 0, 0, 0, 0, 0, 0], [0, 0, 0, 0, 0, 0, 0, 0], [0, 0], [0], [0, 0, 0, 0, 0, 0], [0, 0, 0], [0, 0, 0, 0, 0, 0], [0, 0, 0, 0, 0, 0, 0, 0], [0], [0, 0, 0, 0], [0, 0, 0], [0], [0, 0, 0, 0, 0, 0, 0, 0, 0], [0, 0, 0], [0, 0, 0, 0, 0, 0, 0, 0, 0, 0, 0, 0], [0, 0, 0, 0], [0, 0]], [([], []), ([], []), ([], []), ([], []), ([5, 6, 12], []), ([11], []), ([], []), ([], []), ([12], []), ([], []), ([13], []), ([5, 13], []), ([14], []), ([], []), ([], []), ([10, 16], []), ([15], []), ([], []), ([], []), ([16], []), ([6, 7, 8, 9, 14, 15], []), ([0, 1, 3, 4, 11], [(true, 1)])], []⟩
def ir_undertowref21_Rootsl0 : C :=
 .seq (.seq (.reg [⟨.mv (.s 10), none⟩,
   ⟨.mv (.s 8), none⟩,
   ⟨.mv (.s 9), none⟩,
   ⟨.iaS 1 (.r 1) (.r 2), none⟩,
   ⟨.load 0 false 1 (.r 3), none⟩,
   ⟨.iaA 32 1 (.s 3) (.r 4), none⟩,
   ⟨.load 0 false 1 (.r 5), none⟩,
   ⟨.len 1 (.r 6), none⟩,
   ⟨.bin .lss (.r 0) (.r 7), none⟩] [] [] [(16, 8, none)])
 (.cond (.s 16) (.skip)
  (.exit 4)))
 (.seq (.block 5 (.seq (.reg [⟨.mv (.s 7), none⟩,
    ⟨.mv (.s 8), none⟩,
    ⟨.mv (.s 9), none⟩,
    ⟨.iaS 1 (.r 1) (.r 2), none⟩,
    ⟨.load 0 false 1 (.r 3), none⟩,
    ⟨.iaA 32 1 (.s 3) (.r 4), none⟩,
    ⟨.load 0 false 1 (.r 5), none⟩,
    ⟨.mv (.s 10), none⟩,
    ⟨.iaS 1 (.r 6) (.r 7), none⟩,
    ⟨.load 0 false 1 (.r 8), none⟩,
    ⟨.call .val n_undertowref21_Into [(.r 0), (.r 9)], none⟩,
    ⟨.mv (.r 10), none⟩] [] [] [(7, 11, none)])
  (.drop [16] [])))
 (.reg [⟨.mv (.s 10), none⟩,
   ⟨.bin .add (.r 0) (.c (.int .i64 1)), none⟩,
   ⟨.mv (.r 1), none⟩] [] [] [(10, 2, none)]))
def ir_undertowref21_Rootsl1 : C :=
 .seq (.seq (.reg [⟨.mv (.s 9), none⟩,
   ⟨.mv (.s 8), none⟩,
   ⟨.len 1 (.r 1), none⟩,
   ⟨.bin .lss (.r 0) (.r 2), none⟩] [] [] [(15, 3, none)])
 (.cond (.s 15) (.skip)
  (.exit 2)))
 (.seq (.block 3 (.seq (.seq (.reg [⟨.mv (.c (.int .i64 0)), none⟩] [] [] [(10, 0, none)])
  (.drop [15] []))
  (.block 4 (.loop ir_undertowref21_Rootsl0))))
 (.seq (.reg [⟨.mv (.s 9), none⟩,
   ⟨.bin .add (.r 0) (.c (.int .i64 1)), none⟩,
   ⟨.mv (.r 1), none⟩] [] [] [(9, 2, none)])
 (.drop [10, 16] [])))
def ir_undertowref21_Rootsl2 : C :=
 .seq (.seq (.reg [⟨.mv (.s 4), none⟩,
   ⟨.mv (.s 1), none⟩,
   ⟨.bin .lss (.r 0) (.r 1), none⟩] [] [] [(11, 2, none)])
 (.cond (.s 11) (.skip)
  (.exit 0)))
 (.seq (.block 1 (.seq (.seq (.reg [⟨.mv (.s 0), none⟩,
    ⟨.mv (.s 4), none⟩,
    ⟨.iaS 27 (.r 0) (.r 1), none⟩,
    ⟨.off 0 (.r 2), none⟩,
    ⟨.off 1 (.r 3), none⟩,
    ⟨.off 0 (.r 4), none⟩,
    ⟨.load 0 false 1 (.r 5), none⟩,
    ⟨.call .val n_undertowref05_Sort [(.r 6)], none⟩,
    ⟨.mv (.r 7), none⟩] [] [] [(5, 8, none)])
  (.drop [11] []))
  (.seq (.reg [⟨.mv (.s 0), none⟩,
    ⟨.mv (.s 4), none⟩,
    ⟨.iaS 27 (.r 0) (.r 1), none⟩,
    ⟨.off 0 (.r 2), none⟩,
    ⟨.off 1 (.r 3), none⟩,
    ⟨.load 0 true 9 (.r 4), none⟩,
    ⟨.call .val n_undertowref05_Target [(.r 5)], none⟩,
    ⟨.mv (.r 6), none⟩] [] [] [(6, 7, none)])
  (.seq (.seq (.reg [⟨.mv (.s 6), none⟩,
    ⟨.bin .eql (.r 0) (.c (.int .i64 0)), none⟩] [] [] [(12, 1, none)])
  (.cond (.s 12) (.exit 1)
   (.skip)))
  (.seq (.seq (.reg [⟨.mv (.c (.nils)), none⟩] [] [] [(7, 0, none)])
  (.drop [12] []))
  (.seq (.seq (.reg [⟨.mv (.s 5), none⟩,
    ⟨.bin .eql (.r 0) (.c (.int .i64 4)), none⟩,
    ⟨.mv (.r 1), none⟩,
    ⟨.mv (.s 5), some (2, false)⟩,
    ⟨.bin .geq (.r 3) (.c (.int .i64 10)), some (2, false)⟩,
    ⟨.pick (.r 2) (.c (.bool true)) (.r 4), none⟩] [] [] [(13, 5, none)])
  (.cond (.s 13) (.seq (.reg [⟨.mv (.s 4), none⟩,
     ⟨.lit 0 1 [[.int .i64 0]] [(0, (.r 0))], none⟩,
     ⟨.mv (.r 1), none⟩] [] [] [(7, 2, none)])
   (.drop [13] []))
   (.skip)))
  (.seq (.seq (.seq (.reg [⟨.mv (.s 5), none⟩,
    ⟨.bin .eql (.r 0) (.c (.int .i64 6)), none⟩,
    ⟨.mv (.r 1), none⟩,
    ⟨.mv (.s 5), some (2, false)⟩,
    ⟨.bin .eql (.r 3) (.c (.int .i64 7)), some (2, false)⟩,
    ⟨.pick (.r 2) (.c (.bool true)) (.r 4), none⟩] [] [] [(14, 5, none)])
  (.drop [5, 13] []))
  (.cond (.s 14) (.seq (.seq (.reg [⟨.mv (.s 0), none⟩,
     ⟨.mv (.s 4), none⟩,
     ⟨.iaS 27 (.r 0) (.r 1), none⟩,
     ⟨.off 0 (.r 2), none⟩,
     ⟨.off 1 (.r 3), none⟩,
     ⟨.load 0 true 9 (.r 4), none⟩,
     ⟨.call .val n_undertowref05_Sources [(.r 5)], none⟩,
     ⟨.mv (.r 6), none⟩] [] [] [(8, 7, none)])
   (.drop [14] []))
   (.seq (.reg [⟨.mv (.c (.int .i64 0)), none⟩] [] [] [(9, 0, none)])
   (.block 2 (.loop ir_undertowref21_Rootsl1))))
   (.skip)))
  (.seq (.reg [⟨.mv (.s 6), none⟩,
    ⟨.mv (.s 7), none⟩,
    ⟨.iaA 32 1 (.s 3) (.r 0), none⟩,
    ⟨.store 0 1 (.r 2) (.r 1), none⟩] [] [] [])
  (.drop [6, 7, 8, 9, 14, 15] [])))))))))
 (.seq (.reg [⟨.mv (.s 4), none⟩,
   ⟨.bin .add (.r 0) (.c (.int .i64 1)), none⟩,
   ⟨.mv (.r 1), none⟩] [] [] [(4, 2, none)])
 (.drop [5, 6, 12] [])))
def ir_undertowref21_Roots : Vm.Fn := ⟨[0, 1, 4, 5, 6, 7, 8, 9, 10, 11, 12, 15, 34, 40, 48, 59, 70], 2, 0, [.cell 2 true 32],
 .seq (.reg [⟨.lalloc 0 [.nils, .nils, .nils, .nils, .nils, .nils, .nils, .nils, .nils, .nils, .nils, .nils, .nils, .nils, .nils, .nils, .nils, .nils, .nils, .nils, .nils, .nils, .nils, .nils, .nils, .nils, .nils, .nils, .nils, .nils, .nils, .nils], none⟩] [(true, 0)] [] [(2, 0, some 1)])
 (.seq (.reg [⟨.lalloc 1 [.nils, .nils, .nils, .nils, .nils, .nils, .nils, .nils, .nils, .nils, .nils, .nils, .nils, .nils, .nils, .nils, .nils, .nils, .nils, .nils, .nils, .nils, .nils, .nils, .nils, .nils, .nils, .nils, .nils, .nils, .nils, .nils], none⟩] [(true, 1)] [] [(3, 0, some 3)])
 (.seq (.seq (.reg [⟨.mv (.c (.int .i64 0)), none⟩] [] [] [(4, 0, none)])
 (.block 0 (.loop ir_undertowref21_Rootsl2)))
 (.seq (.seq (.reg [⟨.load 0 true 32 (.s 3), none⟩,
   ⟨.store 0 32 (.s 2) (.r 0), none⟩] [] [] [])
 (.drop [0, 1, 3, 4, 11] [(true, 1)]))
 (.ret))))⟩
/-- 15: undertow/undertowref02.SameInts -/
def h15 : Vm.Hint := ⟨[0, 1, 4, 5, 10, 14, 25], [], [], [[0], [0, 0, 0, 0, 0], [0], [0], [0, 0, 0, 0], [0, 0, 0], [0, 0, 0, 0, 0, 0, 0, 0, 0], [0], [0]], [([2], []), ([], []), ([0, 1, 4], []), ([4], []), ([], []), ([6], []), ([5], []), ([0, 1, 3, 6], []), ([0, 1, 3, 5], [])], []⟩
def ir_undertowref02_SameIntsl0 : C :=
 .seq (.seq (.reg [⟨.mv (.s 3), none⟩,
   ⟨.mv (.s 0), none⟩,
   ⟨.len 1 (.r 1), none⟩,
   ⟨.bin .lss (.r 0) (.r 2), none⟩] [] [] [(5, 3, none)])
 (.cond (.s 5) (.skip)
  (.exit 0)))
 (.seq (.block 1 (.seq (.seq (.reg [⟨.mv (.s 0), none⟩,
    ⟨.mv (.s 3), none⟩,
    ⟨.iaS 1 (.r 0) (.r 1), none⟩,
    ⟨.load 0 false 1 (.r 2), none⟩,
    ⟨.mv (.s 1), none⟩,
    ⟨.mv (.s 3), none⟩,
    ⟨.iaS 1 (.r 4) (.r 5), none⟩,
    ⟨.load 0 false 1 (.r 6), none⟩,
    ⟨.bin .neq (.r 3) (.r 7), none⟩] [] [(2, 6), (2, 7), (3, 6), (3, 7)] [(6, 8, none)])
  (.drop [5] []))
  (.cond (.s 6) (.seq (.seq (.reg [⟨.mv (.c (.bool false)), none⟩] [] [] [(2, 0, none)])
   (.drop [0, 1, 3, 6] []))
   (.ret))
   (.skip))))
 (.seq (.reg [⟨.mv (.s 3), none⟩,
   ⟨.bin .add (.r 0) (.c (.int .i64 1)), none⟩,
   ⟨.mv (.r 1), none⟩] [] [] [(3, 2, none)])
 (.drop [6] [])))
def ir_undertowref02_SameInts : Vm.Fn := ⟨[0, 1, 4, 5, 10, 14, 25], 0, 0, [.slot 2],
 .seq (.seq (.reg [⟨.mv (.c (.bool false)), none⟩] [] [] [(2, 0, none)])
 (.drop [2] []))
 (.seq (.seq (.reg [⟨.mv (.s 0), none⟩,
   ⟨.len 1 (.r 0), none⟩,
   ⟨.mv (.s 1), none⟩,
   ⟨.len 1 (.r 2), none⟩,
   ⟨.bin .neq (.r 1) (.r 3), none⟩] [] [] [(4, 4, none)])
 (.cond (.s 4) (.seq (.seq (.reg [⟨.mv (.c (.bool false)), none⟩] [] [] [(2, 0, none)])
  (.drop [0, 1, 4] []))
  (.ret))
  (.skip)))
 (.seq (.seq (.seq (.reg [⟨.mv (.c (.int .i64 0)), none⟩] [] [] [(3, 0, none)])
 (.drop [4] []))
 (.block 0 (.loop ir_undertowref02_SameIntsl0)))
 (.seq (.seq (.reg [⟨.mv (.c (.bool true)), none⟩] [] [] [(2, 0, none)])
 (.drop [0, 1, 3, 5] []))
 (.ret))))⟩
/-- 16: undertow/deps.Roots -/
def h16 : Vm.Hint := ⟨[0, 1, 2, 6, 7, 8, 9, 30, 35, 36, 37, 38], [9], [], [[0], [0, 0, 0, 0, 0, 0, 0, 0, 0, 0, 0, 0, 0, 0, 0, 0, 0, 0, 0, 0, 0], [0], [0, 0, 0], [0, 0, 0, 0, 0], [0], [0, 0, 0, 1, 0, 0], [0, 0, 0, 0, 0, 1], [0, 0], [0, 0, 0, 0, 0, 0, 0]], [([3], []), ([], []), ([0, 1, 2, 7], []), ([7], []), ([0, 1], []), ([], []), ([11], []), ([5, 6], [(true, 0)]), ([], []), ([2, 4, 8, 9, 10, 11], [])], []⟩
def ir_deps_Rootsl0 : C :=
 .seq (.reg [⟨.bin .lss (.s 10) (.s 9), none⟩] [] [] [(11, 0, none)])
 (.seq (.cond (.s 11) (.skip)
  (.exit 0))
 (.seq (.block 1 (.seq (.seq (.reg [⟨.mv (.s 10), none⟩,
    ⟨.iaS 27 (.s 8) (.s 10), none⟩,
    ⟨.load 0 true 27 (.r 1), none⟩,
    ⟨.lalloc 0 [.int .u64 0, .int .i64 0, .int .i64 0, .int .i64 0, .int .i64 0, .int .i64 0, .bool false, .bool false, .int .i64 0, .int .i64 0, .int .i64 0, .int .u64 0, .int .u64 0, .int .u64 0, .int .u64 0, .bool false, .int .i64 0, .flt 0, .int .i64 0, .int .i64 0, .int .i64 0, .int .i64 0, .int .i64 0, .int .i64 0, .int .i64 0, .int .i64 0, .int .i64 0], none⟩,
    ⟨.mv (.r 0), none⟩,
    ⟨.store 0 27 (.r 3) (.r 2), none⟩] [(true, 0)] [] [(5, 4, none), (6, 3, some 1)])
  (.drop [11] []))
  (.seq (.reg [⟨.mv (.s 4), none⟩,
    ⟨.mv (.s 5), none⟩,
    ⟨.off 0 (.s 6), none⟩,
    ⟨.off 1 (.r 2), none⟩,
    ⟨.load 0 true 9 (.r 3), none⟩,
    ⟨.call .heap n_deps_roots_behind [(.r 0), (.r 1), (.r 4)], none⟩] [] [] [])
  (.drop [5, 6] [(true, 0)]))))
 (.reg [⟨.bin .add (.s 10) (.c (.int .i64 1)), none⟩,
   ⟨.mv (.r 0), none⟩] [] [] [(10, 1, none)])))
def ir_deps_Roots : Vm.Fn := ⟨[0, 1, 2, 6, 7, 8, 9, 30, 35, 36, 37, 38], 1, 0, [.slot 3],
 .seq (.seq (.reg [⟨.mv (.c (.nils)), none⟩] [] [] [(3, 0, none)])
 (.drop [3] []))
 (.seq (.seq (.reg [⟨.mv (.s 1), none⟩,
   ⟨.bin .lss (.r 0) (.c (.int .i64 0)), none⟩,
   ⟨.mv (.r 1), none⟩,
   ⟨.mv (.s 1), some (2, false)⟩,
   ⟨.mv (.s 0), some (2, false)⟩,
   ⟨.len 1 (.r 4), some (2, false)⟩,
   ⟨.bin .gtr (.r 3) (.r 5), some (2, false)⟩,
   ⟨.pick (.r 2) (.c (.bool true)) (.r 6), none⟩,
   ⟨.mv (.r 7), none⟩,
   ⟨.mv (.s 0), some (8, false)⟩,
   ⟨.len 1 (.r 9), some (8, false)⟩,
   ⟨.bin .gtr (.r 10) (.c (.int .i64 512)), some (8, false)⟩,
   ⟨.pick (.r 8) (.c (.bool true)) (.r 11), none⟩,
   ⟨.mv (.r 12), none⟩,
   ⟨.mv (.s 2), some (13, false)⟩,
   ⟨.bin .lss (.r 14) (.c (.int .i64 1)), some (13, false)⟩,
   ⟨.pick (.r 13) (.c (.bool true)) (.r 15), none⟩,
   ⟨.mv (.r 16), none⟩,
   ⟨.mv (.s 2), some (17, false)⟩,
   ⟨.bin .gtr (.r 18) (.c (.int .i64 31)), some (17, false)⟩,
   ⟨.pick (.r 17) (.c (.bool true)) (.r 19), none⟩] [] [] [(7, 20, none)])
 (.cond (.s 7) (.seq (.seq (.reg [⟨.mv (.c (.nils)), none⟩] [] [] [(3, 0, none)])
  (.drop [0, 1, 2, 7] []))
  (.ret))
  (.skip)))
 (.seq (.seq (.reg [⟨.build [.int .u64 0, .int .u64 0, .int .u64 0, .int .u64 0, .int .u64 0, .int .u64 0, .int .u64 0, .int .u64 0, .int .u64 0, .int .u64 0, .int .u64 0, .int .u64 0, .int .u64 0, .int .u64 0, .int .u64 0, .int .u64 0, .int .u64 0, .int .u64 0, .int .u64 0, .int .u64 0, .int .u64 0, .int .u64 0, .int .u64 0, .int .u64 0, .int .u64 0, .int .u64 0, .int .u64 0, .int .u64 0, .int .u64 0, .int .u64 0, .int .u64 0, .int .u64 0, .int .u64 0, .int .u64 0, .int .u64 0, .int .u64 0, .int .u64 0, .int .u64 0, .int .u64 0, .int .u64 0, .int .u64 0, .int .u64 0, .int .u64 0, .int .u64 0, .int .u64 0, .int .u64 0, .int .u64 0, .int .u64 0, .int .u64 0, .int .u64 0, .int .u64 0, .int .u64 0, .int .u64 0, .int .u64 0, .int .u64 0, .int .u64 0, .int .u64 0, .int .u64 0, .int .u64 0, .int .u64 0, .int .u64 0, .int .u64 0, .int .u64 0, .int .u64 0, .int .u64 0, .int .u64 0, .int .u64 0, .int .u64 0, .int .u64 0, .int .u64 0, .int .u64 0, .int .u64 0, .int .u64 0, .int .u64 0, .int .u64 0, .int .u64 0, .int .u64 0, .int .u64 0, .int .u64 0, .int .u64 0, .int .u64 0, .int .u64 0, .int .u64 0, .int .u64 0, .int .u64 0, .int .u64 0, .int .u64 0, .int .u64 0, .int .u64 0, .int .u64 0, .int .u64 0, .int .u64 0, .int .u64 0, .int .u64 0, .int .u64 0, .int .u64 0, .int .u64 0, .int .u64 0, .int .u64 0, .int .u64 0, .int .u64 0, .int .u64 0, .int .u64 0, .int .u64 0, .int .u64 0, .int .u64 0, .int .u64 0, .int .u64 0, .int .u64 0, .int .u64 0, .int .u64 0, .int .u64 0, .int .u64 0, .int .u64 0, .int .u64 0, .int .u64 0, .int .u64 0, .int .u64 0, .int .u64 0, .int .u64 0, .int .u64 0, .int .u64 0, .int .u64 0, .int .u64 0, .int .u64 0, .int .u64 0, .int .u64 0, .int .u64 0, .int .u64 0, .int .u64 0, .int .u64 0, .int .u64 0, .int .u64 0, .int .u64 0, .int .u64 0, .int .u64 0, .int .u64 0, .int .u64 0, .int .u64 0, .int .u64 0, .int .u64 0, .int .u64 0, .int .u64 0, .int .u64 0, .int .u64 0, .int .u64 0, .int .u64 0, .int .u64 0, .int .u64 0, .int .u64 0, .int .u64 0, .int .u64 0, .int .u64 0, .int .u64 0, .int .u64 0, .int .u64 0, .int .u64 0, .int .u64 0, .int .u64 0, .int .u64 0, .int .u64 0, .int .u64 0, .int .u64 0, .int .u64 0, .int .u64 0, .int .u64 0, .int .u64 0, .int .u64 0, .int .u64 0, .int .u64 0, .int .u64 0, .int .u64 0, .int .u64 0, .int .u64 0, .int .u64 0, .int .u64 0, .int .u64 0, .int .u64 0, .int .u64 0, .int .u64 0, .int .u64 0, .int .u64 0, .int .u64 0, .int .u64 0, .int .u64 0, .int .u64 0, .int .u64 0, .int .u64 0, .int .u64 0, .int .u64 0, .int .u64 0, .int .u64 0, .int .u64 0, .int .u64 0, .int .u64 0, .int .u64 0, .int .u64 0, .int .u64 0, .int .u64 0, .int .u64 0, .int .u64 0, .int .u64 0, .int .u64 0, .int .u64 0, .int .u64 0, .int .u64 0, .int .u64 0, .int .u64 0, .int .u64 0, .int .u64 0, .int .u64 0, .int .u64 0, .int .u64 0, .int .u64 0, .int .u64 0, .int .u64 0, .int .u64 0, .int .u64 0, .int .u64 0, .int .u64 0, .int .u64 0, .int .u64 0, .int .u64 0, .int .u64 0, .int .u64 0, .int .u64 0, .int .u64 0, .int .u64 0, .int .u64 0, .int .u64 0, .int .u64 0, .int .u64 0, .int .u64 0, .int .u64 0, .int .u64 0, .int .u64 0, .int .u64 0, .int .u64 0, .int .u64 0, .int .u64 0, .int .u64 0, .int .u64 0, .int .u64 0, .int .u64 0, .int .u64 0, .int .u64 0, .int .u64 0, .int .u64 0, .int .u64 0, .int .u64 0, .int .u64 0, .int .u64 0, .int .u64 0, .int .u64 0, .int .u64 0, .int .u64 0] [], none⟩,
   ⟨.hbox 256 (.r 0), none⟩,
   ⟨.mv (.r 1), none⟩] [] [] [(4, 2, none)])
 (.drop [7] []))
 (.seq (.seq (.seq (.reg [⟨.mv (.s 0), none⟩,
   ⟨.mv (.s 1), none⟩,
   ⟨.slc 27 (.r 0) none (some (.r 1)) none, none⟩,
   ⟨.len 1 (.r 2), none⟩,
   ⟨.mv (.c (.int .i64 0)), none⟩] [] [] [(8, 2, none), (9, 3, none), (10, 4, none)])
 (.drop [0, 1] []))
 (.block 0 (.loop ir_deps_Rootsl0)))
 (.seq (.seq (.reg [⟨.mv (.s 4), none⟩,
   ⟨.mv (.s 2), none⟩,
   ⟨.nilck (.r 0), none⟩,
   ⟨.iaA 32 8 (.r 2) (.r 1), none⟩,
   ⟨.load 0 true 8 (.r 3), none⟩,
   ⟨.call .val n_deps_set_each [(.r 4)], none⟩,
   ⟨.mv (.r 5), none⟩] [] [] [(3, 6, none)])
 (.drop [2, 4, 8, 9, 10, 11] []))
 (.ret)))))⟩
/-- 17: (*undertow/rel.Rel).Pairs -/
def h17 : Vm.Hint := ⟨[0, 2, 3, 4, 6, 8, 9, 10, 19, 20, 21, 22], [], [3], [[0], [1], [0, 0, 0], [0], [0, 0], [0, 0, 0, 0, 0, 0, 0, 0, 0, 0], [0], [0, 0, 0], [0, 0, 0, 0, 1, 2, 0], [0, 0], [0, 0], [0, 0]], [([1], []), ([], []), ([], []), ([], []), ([7], []), ([], []), ([], []), ([11], []), ([4], []), ([], []), ([3, 8, 9, 10, 11], []), ([0, 2, 5, 6, 7], [(false, 0)])], []⟩
def ir_rel_Rel_Pairsl0 : C :=
 .seq (.reg [⟨.bin .lss (.s 10) (.s 9), none⟩] [] [] [(11, 0, none)])
 (.seq (.cond (.s 11) (.skip)
  (.exit 2))
 (.seq (.block 3 (.seq (.seq (.reg [⟨.iaS 1 (.s 8) (.s 10), none⟩,
    ⟨.load 0 false 1 (.r 0), none⟩,
    ⟨.mv (.r 1), none⟩] [] [] [(4, 2, none)])
  (.drop [11] []))
  (.seq (.reg [⟨.mv (.s 2), none⟩,
    ⟨.mv (.s 3), none⟩,
    ⟨.mv (.s 4), none⟩,
    ⟨.build [.int .i64 0, .int .i64 0] [(0, 1, (.r 1)), (1, 1, (.r 2))], none⟩,
    ⟨.lit 1 2 [[.int .i64 0, .int .i64 0]] [(0, (.r 3))], none⟩,
    ⟨.app 2 2 16 (.r 0) (.r 4), none⟩,
    ⟨.mv (.r 5), none⟩] [] [] [(2, 6, some 0)])
  (.drop [4] []))))
 (.reg [⟨.bin .add (.s 10) (.c (.int .i64 1)), none⟩,
   ⟨.mv (.r 0), none⟩] [] [] [(10, 1, none)])))
def ir_rel_Rel_Pairsl1 : C :=
 .seq (.reg [⟨.bin .lss (.s 6) (.s 5), none⟩] [] [] [(7, 0, none)])
 (.seq (.cond (.s 7) (.skip)
  (.exit 0))
 (.seq (.block 1 (.seq (.seq (.reg [⟨.mv (.s 6), none⟩,
    ⟨.mv (.r 0), none⟩] [] [] [(3, 1, none)])
  (.drop [7] []))
  (.seq (.reg [⟨.mv (.s 0), none⟩,
    ⟨.nilck (.r 0), none⟩,
    ⟨.off 0 (.r 1), none⟩,
    ⟨.load 0 false 1 (.r 2), none⟩,
    ⟨.mv (.s 3), none⟩,
    ⟨.iaS 1 (.r 3) (.r 4), none⟩,
    ⟨.load 0 false 1 (.r 5), none⟩,
    ⟨.call .val n_rel_row_each [(.r 6)], none⟩,
    ⟨.len 1 (.r 7), none⟩,
    ⟨.mv (.c (.int .i64 0)), none⟩] [] [] [(8, 7, none), (9, 8, none), (10, 9, none)])
  (.block 2 (.loop ir_rel_Rel_Pairsl0)))))
 (.seq (.reg [⟨.bin .add (.s 6) (.c (.int .i64 1)), none⟩,
   ⟨.mv (.r 0), none⟩] [] [] [(6, 1, none)])
 (.drop [3, 8, 9, 10, 11] []))))
def ir_rel_Rel_Pairs : Vm.Fn := ⟨[0, 2, 3, 4, 6, 8, 9, 10, 19, 20, 21, 22], 0, 1, [.slot 1],
 .seq (.seq (.reg [⟨.mv (.c (.nils)), none⟩] [] [] [(1, 0, none)])
 (.drop [1] []))
 (.seq (.reg [⟨.onil 0, none⟩] [(false, 0)] [] [(2, 0, some 0)])
 (.seq (.seq (.reg [⟨.mv (.s 0), none⟩,
   ⟨.call .val n_rel_Rel_Len [(.r 0)], none⟩,
   ⟨.mv (.c (.int .i64 0)), none⟩] [] [] [(5, 1, none), (6, 2, none)])
 (.block 0 (.loop ir_rel_Rel_Pairsl1)))
 (.seq (.seq (.reg [⟨.mv (.s 2), none⟩,
   ⟨.mv (.r 0), none⟩] [] [] [(1, 1, none)])
 (.drop [0, 2, 5, 6, 7] [(false, 0)]))
 (.ret))))⟩
/-- 18: undertow/undertowref05.Sort -/
def h18 : Vm.Hint := ⟨[0, 2, 3, 4, 7, 11, 19], [], [], [[0], [0, 0], [0, 0], [0], [0], [0, 0, 0, 0], [0, 0, 0], [0, 0, 0, 0, 0, 0], [0, 0, 0], [0, 0, 0, 0, 0, 0, 0], [0]], [], []⟩
def ir_undertowref05_Sortl0 : C :=
 .seq (.seq (.reg [⟨.mv (.s 3), none⟩,
   ⟨.mv (.s 2), none⟩,
   ⟨.len 1 (.r 1), none⟩,
   ⟨.bin .lss (.r 0) (.r 2), none⟩] [] [] [(5, 3, none)])
 (.cond (.s 5) (.skip)
  (.exit 0)))
 (.seq (.block 1 (.seq (.seq (.reg [⟨.mv (.s 0), none⟩,
    ⟨.mv (.s 2), none⟩,
    ⟨.mv (.s 3), none⟩,
    ⟨.iaS 1 (.r 1) (.r 2), none⟩,
    ⟨.load 0 false 1 (.r 3), none⟩,
    ⟨.bin .leq (.r 0) (.r 4), none⟩] [] [] [(6, 5, none)])
  (.cond (.s 6) (.seq (.reg [⟨.mv (.s 3), none⟩,
     ⟨.bin .add (.r 0) (.c (.int .i64 1)), none⟩,
     ⟨.mv (.r 1), none⟩] [] [] [(1, 2, none)])
   (.ret))
   (.skip)))
  (.reg [⟨.mv (.s 0), none⟩,
    ⟨.mv (.s 2), none⟩,
    ⟨.mv (.s 3), none⟩,
    ⟨.iaS 1 (.r 1) (.r 2), none⟩,
    ⟨.load 0 false 1 (.r 3), none⟩,
    ⟨.bin .sub (.r 0) (.r 4), none⟩,
    ⟨.mv (.r 5), none⟩] [] [] [(0, 6, none)])))
 (.reg [⟨.mv (.s 3), none⟩,
   ⟨.bin .add (.r 0) (.c (.int .i64 1)), none⟩,
   ⟨.mv (.r 1), none⟩] [] [] [(3, 2, none)]))
def ir_undertowref05_Sort : Vm.Fn := ⟨[0, 2, 3, 4, 7, 11, 19], 0, 0, [.slot 1],
 .seq (.reg [⟨.mv (.c (.int .i64 0)), none⟩] [] [] [(1, 0, none)])
 (.seq (.reg [⟨.lit 0 1 [[.int .i64 0], [.int .i64 0], [.int .i64 0], [.int .i64 0], [.int .i64 0], [.int .i64 0], [.int .i64 0], [.int .i64 0], [.int .i64 0], [.int .i64 0], [.int .i64 0], [.int .i64 0]] [(0, (.c (.int .i64 2))), (1, (.c (.int .i64 2))), (2, (.c (.int .i64 6))), (3, (.c (.int .i64 7))), (4, (.c (.int .i64 4))), (5, (.c (.int .i64 13))), (6, (.c (.int .i64 15))), (7, (.c (.int .i64 2))), (8, (.c (.int .i64 2))), (9, (.c (.int .i64 2))), (10, (.c (.int .i64 2))), (11, (.c (.int .i64 18)))], none⟩,
   ⟨.mv (.r 0), none⟩] [] [] [(2, 1, none)])
 (.seq (.seq (.reg [⟨.mv (.s 0), none⟩,
   ⟨.bin .lss (.r 0) (.c (.int .i64 1)), none⟩] [] [] [(4, 1, none)])
 (.cond (.s 4) (.seq (.reg [⟨.mv (.c (.int .i64 0)), none⟩] [] [] [(1, 0, none)])
  (.ret))
  (.skip)))
 (.seq (.seq (.reg [⟨.mv (.c (.int .i64 0)), none⟩] [] [] [(3, 0, none)])
 (.block 0 (.loop ir_undertowref05_Sortl0)))
 (.seq (.reg [⟨.mv (.c (.int .i64 0)), none⟩] [] [] [(1, 0, none)])
 (.ret)))))⟩
/-- 19: (*undertow/rel.Rel).Has -/
def h19 : Vm.Hint := ⟨[0, 1, 2, 6], [], [], [[0], [0, 0, 0, 0, 0, 0, 0, 0, 0, 0, 0, 0, 0, 0, 0, 0, 0, 0, 0, 0]], [([3], []), ([0, 1, 2], [])], []⟩
def ir_rel_Rel_Has : Vm.Fn := ⟨[0, 1, 2, 6], 0, 0, [.slot 3],
 .seq (.seq (.reg [⟨.mv (.c (.bool false)), none⟩] [] [] [(3, 0, none)])
 (.drop [3] []))
 (.seq (.seq (.reg [⟨.mv (.s 0), none⟩,
   ⟨.mv (.s 1), none⟩,
   ⟨.call .val n_rel_Rel_is [(.r 0), (.r 1)], none⟩,
   ⟨.mv (.r 2), none⟩,
   ⟨.mv (.s 0), some (3, true)⟩,
   ⟨.mv (.s 2), some (3, true)⟩,
   ⟨.call .val n_rel_Rel_is [(.r 4), (.r 5)], some (3, true)⟩,
   ⟨.pick (.r 3) (.r 6) (.c (.bool false)), none⟩,
   ⟨.mv (.r 7), none⟩,
   ⟨.mv (.s 0), some (8, true)⟩,
   ⟨.nilck (.r 9), some (8, true)⟩,
   ⟨.off 0 (.r 10), some (8, true)⟩,
   ⟨.load 0 false 1 (.r 11), some (8, true)⟩,
   ⟨.mv (.s 1), some (8, true)⟩,
   ⟨.iaS 1 (.r 12) (.r 13), some (8, true)⟩,
   ⟨.load 0 false 1 (.r 14), some (8, true)⟩,
   ⟨.mv (.s 2), some (8, true)⟩,
   ⟨.call .val n_rel_row_has [(.r 15), (.r 16)], some (8, true)⟩,
   ⟨.pick (.r 8) (.r 17) (.c (.bool false)), none⟩,
   ⟨.mv (.r 18), none⟩] [] [] [(3, 19, none)])
 (.drop [0, 1, 2] []))
 (.ret))⟩
/-- 20: undertow/undertowref05.Target -/
def h20 : Vm.Hint := ⟨[0, 1, 2, 6], [1], [], [[1, 0], [0, 0, 0, 0], [0], [0, 0, 0, 0]], [([0, 2], []), ([], []), ([1, 3], [(true, 0)]), ([1, 3], [(true, 0)])], []⟩
def ir_undertowref05_Target : Vm.Fn := ⟨[0, 1, 2, 6], 1, 0, [.slot 2],
 .seq (.seq (.reg [⟨.lbox 0 9 (.s 0), none⟩,
   ⟨.mv (.c (.int .i64 0)), none⟩] [(true, 0)] [] [(1, 0, some 1), (2, 1, none)])
 (.drop [0, 2] []))
 (.seq (.seq (.reg [⟨.off 0 (.s 1), none⟩,
   ⟨.load 0 false 1 (.r 0), none⟩,
   ⟨.call .val n_undertowref05_Writes [(.r 1)], none⟩,
   ⟨.un .not (.r 2), none⟩] [] [] [(3, 3, none)])
 (.cond (.s 3) (.seq (.seq (.reg [⟨.mv (.c (.int .i64 0)), none⟩] [] [] [(2, 0, none)])
  (.drop [1, 3] [(true, 0)]))
  (.ret))
  (.skip)))
 (.seq (.seq (.reg [⟨.off 1 (.s 1), none⟩,
   ⟨.load 0 false 1 (.r 0), none⟩,
   ⟨.call .val n_undertowref05_Register [(.r 1)], none⟩,
   ⟨.mv (.r 2), none⟩] [] [] [(2, 3, none)])
 (.drop [1, 3] [(true, 0)]))
 (.ret)))⟩
/-- 21: (*undertow/rel.Rel).Len -/
def h21 : Vm.Hint := ⟨[0, 2, 4], [], [], [[0], [0, 0], [0], [0, 0, 0, 0, 0, 0]], [([1], []), ([], []), ([0, 2], []), ([0, 2], [])], []⟩
def ir_rel_Rel_Len : Vm.Fn := ⟨[0, 2, 4], 0, 0, [.slot 1],
 .seq (.seq (.reg [⟨.mv (.c (.int .i64 0)), none⟩] [] [] [(1, 0, none)])
 (.drop [1] []))
 (.seq (.seq (.reg [⟨.mv (.s 0), none⟩,
   ⟨.eqn .ptr false (.r 0) (.c (.nilp)), none⟩] [] [] [(2, 1, none)])
 (.cond (.s 2) (.seq (.seq (.reg [⟨.mv (.c (.int .i64 0)), none⟩] [] [] [(1, 0, none)])
  (.drop [0, 2] []))
  (.ret))
  (.skip)))
 (.seq (.seq (.reg [⟨.mv (.s 0), none⟩,
   ⟨.nilck (.r 0), none⟩,
   ⟨.off 0 (.r 1), none⟩,
   ⟨.load 0 false 1 (.r 2), none⟩,
   ⟨.len 1 (.r 3), none⟩,
   ⟨.mv (.r 4), none⟩] [] [] [(1, 5, none)])
 (.drop [0, 2] []))
 (.ret)))⟩
/-- 22: undertow/deps.along -/
def h22 : Vm.Hint := ⟨[0, 1, 4, 5, 6, 7, 8, 10, 15, 18, 19, 20, 21, 32, 33, 34, 35], [8], [], [[0], [0, 0, 1, 0], [0, 0], [0], [0, 0, 0], [0, 0, 0], [0], [0, 0, 0, 1, 0, 0], [0, 0, 0, 0, 0, 0, 1, 0, 0, 0], [0], [0, 0, 0], [0, 0, 0, 1], [0, 0], [0, 0, 0, 0, 0, 1], [0, 0], [0, 0]], [([2], []), ([], []), ([], []), ([0, 1, 3, 8], []), ([8], []), ([0], []), ([], []), ([12], []), ([], []), ([], []), ([16], []), ([7], []), ([], []), ([5, 6, 13, 14, 15, 16], [(true, 0)]), ([], []), ([1, 3, 4, 9, 10, 11, 12], [])], []⟩
def ir_deps_alongl0 : C :=
 .seq (.reg [⟨.bin .lss (.s 15) (.s 14), none⟩] [] [] [(16, 0, none)])
 (.seq (.cond (.s 16) (.skip)
  (.exit 2))
 (.seq (.block 3 (.seq (.seq (.reg [⟨.iaS 1 (.s 13) (.s 15), none⟩,
    ⟨.load 0 false 1 (.r 0), none⟩,
    ⟨.mv (.r 1), none⟩] [] [] [(7, 2, none)])
  (.drop [16] []))
  (.seq (.reg [⟨.mv (.s 3), none⟩,
    ⟨.mv (.s 7), none⟩,
    ⟨.mv (.s 5), none⟩,
    ⟨.call .heap n_rel_Rel_Add [(.r 0), (.r 1), (.r 2)], none⟩] [] [] [])
  (.drop [7] []))))
 (.reg [⟨.bin .add (.s 15) (.c (.int .i64 1)), none⟩,
   ⟨.mv (.r 0), none⟩] [] [] [(15, 1, none)])))
def ir_deps_alongl1 : C :=
 .seq (.reg [⟨.bin .lss (.s 11) (.s 10), none⟩] [] [] [(12, 0, none)])
 (.seq (.cond (.s 12) (.skip)
  (.exit 0))
 (.seq (.block 1 (.seq (.seq (.reg [⟨.mv (.s 11), none⟩,
    ⟨.iaS 27 (.s 9) (.s 11), none⟩,
    ⟨.load 0 true 27 (.r 1), none⟩,
    ⟨.lalloc 0 [.int .u64 0, .int .i64 0, .int .i64 0, .int .i64 0, .int .i64 0, .int .i64 0, .bool false, .bool false, .int .i64 0, .int .i64 0, .int .i64 0, .int .u64 0, .int .u64 0, .int .u64 0, .int .u64 0, .bool false, .int .i64 0, .flt 0, .int .i64 0, .int .i64 0, .int .i64 0, .int .i64 0, .int .i64 0, .int .i64 0, .int .i64 0, .int .i64 0, .int .i64 0], none⟩,
    ⟨.mv (.r 0), none⟩,
    ⟨.store 0 27 (.r 3) (.r 2), none⟩] [(true, 0)] [] [(5, 4, none), (6, 3, some 1)])
  (.drop [12] []))
  (.seq (.seq (.reg [⟨.mv (.s 1), none⟩,
    ⟨.mv (.s 5), none⟩,
    ⟨.off 0 (.s 6), none⟩,
    ⟨.off 1 (.r 2), none⟩,
    ⟨.load 0 true 9 (.r 3), none⟩,
    ⟨.mv (.s 4), none⟩,
    ⟨.callv .heap (.r 0) [(.r 1), (.r 4), (.r 5)], none⟩,
    ⟨.call .val n_deps_set_each [(.r 6)], none⟩,
    ⟨.len 1 (.r 7), none⟩,
    ⟨.mv (.c (.int .i64 0)), none⟩] [] [] [(13, 7, none), (14, 8, none), (15, 9, none)])
  (.block 2 (.loop ir_deps_alongl0)))
  (.seq (.reg [⟨.mv (.s 4), none⟩,
    ⟨.mv (.s 5), none⟩,
    ⟨.off 0 (.s 6), none⟩,
    ⟨.off 1 (.r 2), none⟩,
    ⟨.load 0 true 9 (.r 3), none⟩,
    ⟨.call .heap n_deps_roots_behind [(.r 0), (.r 1), (.r 4)], none⟩] [] [] [])
  (.drop [5, 6, 13, 14, 15, 16] [(true, 0)])))))
 (.reg [⟨.bin .add (.s 11) (.c (.int .i64 1)), none⟩,
   ⟨.mv (.r 0), none⟩] [] [] [(11, 1, none)])))
def ir_deps_along : Vm.Fn := ⟨[0, 1, 4, 5, 6, 7, 8, 10, 15, 18, 19, 20, 21, 32, 33, 34, 35], 1, 0, [.slot 2],
 .seq (.seq (.reg [⟨.mv (.c (.nilp)), none⟩] [] [] [(2, 0, none)])
 (.drop [2] []))
 (.seq (.reg [⟨.mv (.s 0), none⟩,
   ⟨.len 1 (.r 0), none⟩,
   ⟨.call .heap n_rel_New [(.r 1)], none⟩,
   ⟨.mv (.r 2), none⟩] [] [] [(3, 3, none)])
 (.seq (.seq (.reg [⟨.mv (.s 3), none⟩,
   ⟨.eqn .ptr false (.r 0) (.c (.nilp)), none⟩] [] [] [(8, 1, none)])
 (.cond (.s 8) (.seq (.seq (.reg [⟨.mv (.c (.nilp)), none⟩] [] [] [(2, 0, none)])
  (.drop [0, 1, 3, 8] []))
  (.ret))
  (.skip)))
 (.seq (.seq (.reg [⟨.build [.int .u64 0, .int .u64 0, .int .u64 0, .int .u64 0, .int .u64 0, .int .u64 0, .int .u64 0, .int .u64 0, .int .u64 0, .int .u64 0, .int .u64 0, .int .u64 0, .int .u64 0, .int .u64 0, .int .u64 0, .int .u64 0, .int .u64 0, .int .u64 0, .int .u64 0, .int .u64 0, .int .u64 0, .int .u64 0, .int .u64 0, .int .u64 0, .int .u64 0, .int .u64 0, .int .u64 0, .int .u64 0, .int .u64 0, .int .u64 0, .int .u64 0, .int .u64 0, .int .u64 0, .int .u64 0, .int .u64 0, .int .u64 0, .int .u64 0, .int .u64 0, .int .u64 0, .int .u64 0, .int .u64 0, .int .u64 0, .int .u64 0, .int .u64 0, .int .u64 0, .int .u64 0, .int .u64 0, .int .u64 0, .int .u64 0, .int .u64 0, .int .u64 0, .int .u64 0, .int .u64 0, .int .u64 0, .int .u64 0, .int .u64 0, .int .u64 0, .int .u64 0, .int .u64 0, .int .u64 0, .int .u64 0, .int .u64 0, .int .u64 0, .int .u64 0, .int .u64 0, .int .u64 0, .int .u64 0, .int .u64 0, .int .u64 0, .int .u64 0, .int .u64 0, .int .u64 0, .int .u64 0, .int .u64 0, .int .u64 0, .int .u64 0, .int .u64 0, .int .u64 0, .int .u64 0, .int .u64 0, .int .u64 0, .int .u64 0, .int .u64 0, .int .u64 0, .int .u64 0, .int .u64 0, .int .u64 0, .int .u64 0, .int .u64 0, .int .u64 0, .int .u64 0, .int .u64 0, .int .u64 0, .int .u64 0, .int .u64 0, .int .u64 0, .int .u64 0, .int .u64 0, .int .u64 0, .int .u64 0, .int .u64 0, .int .u64 0, .int .u64 0, .int .u64 0, .int .u64 0, .int .u64 0, .int .u64 0, .int .u64 0, .int .u64 0, .int .u64 0, .int .u64 0, .int .u64 0, .int .u64 0, .int .u64 0, .int .u64 0, .int .u64 0, .int .u64 0, .int .u64 0, .int .u64 0, .int .u64 0, .int .u64 0, .int .u64 0, .int .u64 0, .int .u64 0, .int .u64 0, .int .u64 0, .int .u64 0, .int .u64 0, .int .u64 0, .int .u64 0, .int .u64 0, .int .u64 0, .int .u64 0, .int .u64 0, .int .u64 0, .int .u64 0, .int .u64 0, .int .u64 0, .int .u64 0, .int .u64 0, .int .u64 0, .int .u64 0, .int .u64 0, .int .u64 0, .int .u64 0, .int .u64 0, .int .u64 0, .int .u64 0, .int .u64 0, .int .u64 0, .int .u64 0, .int .u64 0, .int .u64 0, .int .u64 0, .int .u64 0, .int .u64 0, .int .u64 0, .int .u64 0, .int .u64 0, .int .u64 0, .int .u64 0, .int .u64 0, .int .u64 0, .int .u64 0, .int .u64 0, .int .u64 0, .int .u64 0, .int .u64 0, .int .u64 0, .int .u64 0, .int .u64 0, .int .u64 0, .int .u64 0, .int .u64 0, .int .u64 0, .int .u64 0, .int .u64 0, .int .u64 0, .int .u64 0, .int .u64 0, .int .u64 0, .int .u64 0, .int .u64 0, .int .u64 0, .int .u64 0, .int .u64 0, .int .u64 0, .int .u64 0, .int .u64 0, .int .u64 0, .int .u64 0, .int .u64 0, .int .u64 0, .int .u64 0, .int .u64 0, .int .u64 0, .int .u64 0, .int .u64 0, .int .u64 0, .int .u64 0, .int .u64 0, .int .u64 0, .int .u64 0, .int .u64 0, .int .u64 0, .int .u64 0, .int .u64 0, .int .u64 0, .int .u64 0, .int .u64 0, .int .u64 0, .int .u64 0, .int .u64 0, .int .u64 0, .int .u64 0, .int .u64 0, .int .u64 0, .int .u64 0, .int .u64 0, .int .u64 0, .int .u64 0, .int .u64 0, .int .u64 0, .int .u64 0, .int .u64 0, .int .u64 0, .int .u64 0, .int .u64 0, .int .u64 0, .int .u64 0, .int .u64 0, .int .u64 0, .int .u64 0, .int .u64 0, .int .u64 0, .int .u64 0, .int .u64 0, .int .u64 0, .int .u64 0, .int .u64 0, .int .u64 0, .int .u64 0, .int .u64 0, .int .u64 0, .int .u64 0, .int .u64 0, .int .u64 0, .int .u64 0, .int .u64 0, .int .u64 0, .int .u64 0, .int .u64 0, .int .u64 0, .int .u64 0, .int .u64 0, .int .u64 0] [], none⟩,
   ⟨.hbox 256 (.r 0), none⟩,
   ⟨.mv (.r 1), none⟩] [] [] [(4, 2, none)])
 (.drop [8] []))
 (.seq (.seq (.seq (.reg [⟨.mv (.s 0), none⟩,
   ⟨.len 1 (.r 0), none⟩,
   ⟨.mv (.c (.int .i64 0)), none⟩] [] [] [(9, 0, none), (10, 1, none), (11, 2, none)])
 (.drop [0] []))
 (.block 0 (.loop ir_deps_alongl1)))
 (.seq (.seq (.reg [⟨.mv (.s 3), none⟩,
   ⟨.mv (.r 0), none⟩] [] [] [(2, 1, none)])
 (.drop [1, 3, 4, 9, 10, 11, 12] []))
 (.ret))))))⟩
/-- 23: undertow/deps.Address$1 -/
def h23 : Vm.Hint := ⟨[1, 2, 4, 6, 10], [4, 6], [], [[1, 2], [0, 0, 0, 0], [0, 0], [0, 0, 0, 0, 0]], [([0], []), ([], []), ([1, 2, 4], [(true, 0)]), ([1, 2, 4], [(true, 0)])], []⟩
def ir_deps_Address_1 : Vm.Fn := ⟨[1, 2, 4, 6, 10], 2, 0, [.cell 3 true 8],
 .seq (.seq (.reg [⟨.lbox 0 9 (.s 0), none⟩,
   ⟨.lalloc 1 [.int .u64 0, .int .u64 0, .int .u64 0, .int .u64 0, .int .u64 0, .int .u64 0, .int .u64 0, .int .u64 0], none⟩] [(true, 0), (true, 1)] [] [(2, 0, some 1), (3, 1, some 3)])
 (.drop [0] []))
 (.seq (.seq (.reg [⟨.off 0 (.s 2), none⟩,
   ⟨.load 0 false 1 (.r 0), none⟩,
   ⟨.call .val n_ops_Memory [(.r 1)], none⟩,
   ⟨.un .not (.r 2), none⟩] [] [] [(4, 3, none)])
 (.cond (.s 4) (.seq (.seq (.reg [⟨.build [.int .u64 0, .int .u64 0, .int .u64 0, .int .u64 0, .int .u64 0, .int .u64 0, .int .u64 0, .int .u64 0] [], none⟩,
    ⟨.store 0 8 (.s 3) (.r 0), none⟩] [] [] [])
  (.drop [1, 2, 4] [(true, 0)]))
  (.ret))
  (.skip)))
 (.seq (.seq (.reg [⟨.mv (.s 1), none⟩,
   ⟨.load 0 true 9 (.s 2), none⟩,
   ⟨.call .val n_deps_first [(.r 1)], none⟩,
   ⟨.call .val n_deps_roots_of [(.r 0), (.r 2)], none⟩,
   ⟨.store 0 8 (.s 3) (.r 3), none⟩] [] [] [])
 (.drop [1, 2, 4] [(true, 0)]))
 (.ret)))⟩
/-- 24: undertow/ops.Memory -/
def h24 : Vm.Hint := ⟨[0, 2], [], [], [[0], [0, 0, 0, 0]], [([1], []), ([0], [])], []⟩
def ir_ops_Memory : Vm.Fn := ⟨[0, 2], 0, 0, [.slot 1],
 .seq (.seq (.reg [⟨.mv (.c (.bool false)), none⟩] [] [] [(1, 0, none)])
 (.drop [1] []))
 (.seq (.seq (.reg [⟨.mv (.s 0), none⟩,
   ⟨.call .val n_ops_Size [(.r 0)], none⟩,
   ⟨.bin .gtr (.r 1) (.c (.int .i64 0)), none⟩,
   ⟨.mv (.r 2), none⟩] [] [] [(1, 3, none)])
 (.drop [0] []))
 (.ret))⟩
/-- 25: (*undertow/deps.roots).of -/
def h25 : Vm.Hint := ⟨[0, 1, 4, 5, 7, 8, 9, 10, 11, 19], [4], [], [[1], [0], [0, 0, 0], [0], [0, 0, 0], [0, 0, 0, 0, 0, 0], [0, 0, 0, 0, 0, 1], [0, 0], [0, 0]], [([], []), ([], []), ([1], []), ([], []), ([8], []), ([], []), ([4, 9], []), ([4, 9], []), ([0, 3, 5, 6, 7, 8], [])], []⟩
def ir_deps_roots_ofl0 : C :=
 .seq (.reg [⟨.bin .lss (.s 7) (.s 6), none⟩] [] [] [(8, 0, none)])
 (.seq (.cond (.s 8) (.skip)
  (.exit 0))
 (.seq (.block 1 (.seq (.seq (.reg [⟨.iaS 1 (.s 5) (.s 7), none⟩,
    ⟨.load 0 false 1 (.r 0), none⟩,
    ⟨.mv (.r 1), none⟩] [] [] [(4, 2, none)])
  (.drop [8] []))
  (.seq (.reg [⟨.mv (.s 4), none⟩,
    ⟨.bin .gtr (.r 0) (.c (.int .i64 0)), none⟩,
    ⟨.mv (.r 1), none⟩,
    ⟨.mv (.s 4), some (2, true)⟩,
    ⟨.bin .lss (.r 3) (.c (.int .i64 32)), some (2, true)⟩,
    ⟨.pick (.r 2) (.r 4) (.c (.bool false)), none⟩] [] [] [(9, 5, none)])
  (.cond (.s 9) (.seq (.reg [⟨.mv (.s 0), none⟩,
     ⟨.mv (.s 4), none⟩,
     ⟨.nilck (.r 0), none⟩,
     ⟨.iaA 32 8 (.r 2) (.r 1), none⟩,
     ⟨.load 0 true 8 (.r 3), none⟩,
     ⟨.call .heap n_deps_set_join [(.s 3), (.r 4)], none⟩] [] [] [])
   (.drop [4, 9] []))
   (.skip)))))
 (.seq (.reg [⟨.bin .add (.s 7) (.c (.int .i64 1)), none⟩,
   ⟨.mv (.r 0), none⟩] [] [] [(7, 1, none)])
 (.drop [4, 9] []))))
def ir_deps_roots_of : Vm.Fn := ⟨[0, 1, 4, 5, 7, 8, 9, 10, 11, 19], 1, 0, [.cell 2 true 8],
 .seq (.reg [⟨.lalloc 0 [.int .u64 0, .int .u64 0, .int .u64 0, .int .u64 0, .int .u64 0, .int .u64 0, .int .u64 0, .int .u64 0], none⟩] [(true, 0)] [] [(2, 0, some 1)])
 (.seq (.reg [⟨.halloc [.int .u64 0, .int .u64 0, .int .u64 0, .int .u64 0, .int .u64 0, .int .u64 0, .int .u64 0, .int .u64 0], none⟩] [] [] [(3, 0, none)])
 (.seq (.seq (.seq (.reg [⟨.mv (.s 1), none⟩,
   ⟨.len 1 (.r 0), none⟩,
   ⟨.mv (.c (.int .i64 0)), none⟩] [] [] [(5, 0, none), (6, 1, none), (7, 2, none)])
 (.drop [1] []))
 (.block 0 (.loop ir_deps_roots_ofl0)))
 (.seq (.seq (.reg [⟨.load 0 true 8 (.s 3), none⟩,
   ⟨.store 0 8 (.s 2) (.r 0), none⟩] [] [] [])
 (.drop [0, 3, 5, 6, 7, 8] []))
 (.ret))))⟩
/-- 26: undertow/deps.first -/
def h26 : Vm.Hint := ⟨[0, 1, 2], [1], [], [[1, 0], [0, 0], [0, 0, 0]], [([0, 2], []), ([], []), ([1], [(true, 0)])], []⟩
def ir_deps_first : Vm.Fn := ⟨[0, 1, 2], 1, 0, [.slot 2],
 .seq (.seq (.reg [⟨.lbox 0 9 (.s 0), none⟩,
   ⟨.mv (.c (.nils)), none⟩] [(true, 0)] [] [(1, 0, some 1), (2, 1, none)])
 (.drop [0, 2] []))
 (.seq (.reg [⟨.off 3 (.s 1), none⟩,
   ⟨.store 0 1 (.r 0) (.c (.int .i64 0)), none⟩] [] [] [])
 (.seq (.seq (.reg [⟨.load 0 true 9 (.s 1), none⟩,
   ⟨.call .val n_ops_Sources [(.r 0)], none⟩,
   ⟨.mv (.r 1), none⟩] [] [] [(2, 2, none)])
 (.drop [1] [(true, 0)]))
 (.ret)))⟩
/-- 27: undertow/deps.Course$1 -/
def h27 : Vm.Hint := ⟨[1, 2, 3, 5, 7, 8, 18], [5, 7, 8], [], [[1, 2], [0, 3, 0], [0, 0, 0, 0, 0, 0, 0, 0, 0], [0, 0, 0, 0, 1], [0, 0]], [([0], []), ([], []), ([], []), ([1, 3, 6], [(true, 0)]), ([1, 3, 5, 6], [(true, 2), (true, 0)])], []⟩
def ir_deps_Course_1 : Vm.Fn := ⟨[1, 2, 3, 5, 7, 8, 18], 3, 0, [.cell 4 true 8],
 .seq (.seq (.reg [⟨.lbox 0 9 (.s 0), none⟩,
   ⟨.lalloc 1 [.int .u64 0, .int .u64 0, .int .u64 0, .int .u64 0, .int .u64 0, .int .u64 0, .int .u64 0, .int .u64 0], none⟩] [(true, 0), (true, 1)] [] [(3, 0, some 1), (4, 1, some 3)])
 (.drop [0] []))
 (.seq (.reg [⟨.load 0 true 8 (.s 2), none⟩,
   ⟨.lalloc 2 [.int .u64 0, .int .u64 0, .int .u64 0, .int .u64 0, .int .u64 0, .int .u64 0, .int .u64 0, .int .u64 0], none⟩,
   ⟨.store 0 8 (.r 1) (.r 0), none⟩] [(true, 2)] [] [(5, 1, some 5)])
 (.seq (.seq (.reg [⟨.off 0 (.s 3), none⟩,
   ⟨.load 0 false 1 (.r 0), none⟩,
   ⟨.call .val n_ops_Sort [(.r 1)], none⟩,
   ⟨.bin .eql (.r 2) (.c (.int .i64 3)), none⟩,
   ⟨.mv (.r 3), none⟩,
   ⟨.off 0 (.s 3), some (4, false)⟩,
   ⟨.load 0 false 1 (.r 5), some (4, false)⟩,
   ⟨.bin .eql (.r 6) (.c (.int .i64 4)), some (4, false)⟩,
   ⟨.pick (.r 4) (.c (.bool true)) (.r 7), none⟩] [] [] [(6, 8, none)])
 (.cond (.s 6) (.seq (.reg [⟨.mv (.s 1), none⟩,
    ⟨.load 0 true 9 (.s 3), none⟩,
    ⟨.call .val n_ops_Sources [(.r 1)], none⟩,
    ⟨.call .val n_deps_roots_of [(.r 0), (.r 2)], none⟩,
    ⟨.call .heap n_deps_set_join [(.s 2), (.r 3)], none⟩] [] [] [])
  (.drop [1, 3, 6] [(true, 0)]))
  (.skip)))
 (.seq (.seq (.reg [⟨.load 0 true 8 (.s 5), none⟩,
   ⟨.store 0 8 (.s 4) (.r 0), none⟩] [] [] [])
 (.drop [1, 3, 5, 6] [(true, 2), (true, 0)]))
 (.ret))))⟩
/-- 28: undertow/ops.Sort -/
def h28 : Vm.Hint := ⟨[0, 2, 3, 10, 13, 16, 19, 22, 25, 28, 31, 34, 37, 40], [], [], [[0], [0, 0, 0, 0, 0, 0, 0], [0], [0, 0, 0], [0], [0, 0, 0], [0], [0, 0, 0], [0], [0, 0, 0], [0], [0, 0, 0], [0], [0, 0, 0], [0], [0, 0, 0], [0], [0, 0, 0], [0], [0, 0, 0], [0], [0, 0, 0], [0], [0, 0, 0], [0], [0]], [], []⟩
def ir_ops_Sort : Vm.Fn := ⟨[0, 2, 3, 10, 13, 16, 19, 22, 25, 28, 31, 34, 37, 40], 0, 0, [.slot 1],
 .seq (.reg [⟨.mv (.c (.int .i64 0)), none⟩] [] [] [(1, 0, none)])
 (.seq (.block 0 (.seq (.reg [⟨.mv (.s 0), none⟩,
    ⟨.bin .lss (.r 0) (.c (.int .i64 1)), none⟩,
    ⟨.mv (.r 1), none⟩,
    ⟨.mv (.s 0), some (2, false)⟩,
    ⟨.bin .gtr (.r 3) (.c (.int .i64 75)), some (2, false)⟩,
    ⟨.pick (.r 2) (.c (.bool true)) (.r 4), none⟩,
    ⟨.mv (.r 5), none⟩] [] [] [(2, 6, none)])
  (.cond (.s 2) (.seq (.reg [⟨.mv (.c (.int .i64 0)), none⟩] [] [] [(1, 0, none)])
   (.ret))
   (.seq (.reg [⟨.mv (.s 0), none⟩,
     ⟨.bin .leq (.r 0) (.c (.int .i64 2)), none⟩,
     ⟨.mv (.r 1), none⟩] [] [] [(3, 2, none)])
   (.cond (.s 3) (.seq (.reg [⟨.mv (.c (.int .i64 1)), none⟩] [] [] [(1, 0, none)])
    (.ret))
    (.seq (.reg [⟨.mv (.s 0), none⟩,
      ⟨.bin .leq (.r 0) (.c (.int .i64 4)), none⟩,
      ⟨.mv (.r 1), none⟩] [] [] [(4, 2, none)])
    (.cond (.s 4) (.seq (.reg [⟨.mv (.c (.int .i64 2)), none⟩] [] [] [(1, 0, none)])
     (.ret))
     (.seq (.reg [⟨.mv (.s 0), none⟩,
       ⟨.bin .leq (.r 0) (.c (.int .i64 10)), none⟩,
       ⟨.mv (.r 1), none⟩] [] [] [(5, 2, none)])
     (.cond (.s 5) (.seq (.reg [⟨.mv (.c (.int .i64 3)), none⟩] [] [] [(1, 0, none)])
      (.ret))
      (.seq (.reg [⟨.mv (.s 0), none⟩,
        ⟨.bin .leq (.r 0) (.c (.int .i64 17)), none⟩,
        ⟨.mv (.r 1), none⟩] [] [] [(6, 2, none)])
      (.cond (.s 6) (.seq (.reg [⟨.mv (.c (.int .i64 4)), none⟩] [] [] [(1, 0, none)])
       (.ret))
       (.seq (.reg [⟨.mv (.s 0), none⟩,
         ⟨.bin .leq (.r 0) (.c (.int .i64 21)), none⟩,
         ⟨.mv (.r 1), none⟩] [] [] [(7, 2, none)])
       (.cond (.s 7) (.seq (.reg [⟨.mv (.c (.int .i64 5)), none⟩] [] [] [(1, 0, none)])
        (.ret))
        (.seq (.reg [⟨.mv (.s 0), none⟩,
          ⟨.bin .leq (.r 0) (.c (.int .i64 34)), none⟩,
          ⟨.mv (.r 1), none⟩] [] [] [(8, 2, none)])
        (.cond (.s 8) (.seq (.reg [⟨.mv (.c (.int .i64 6)), none⟩] [] [] [(1, 0, none)])
         (.ret))
         (.seq (.reg [⟨.mv (.s 0), none⟩,
           ⟨.bin .leq (.r 0) (.c (.int .i64 49)), none⟩,
           ⟨.mv (.r 1), none⟩] [] [] [(9, 2, none)])
         (.cond (.s 9) (.seq (.reg [⟨.mv (.c (.int .i64 7)), none⟩] [] [] [(1, 0, none)])
          (.ret))
          (.seq (.reg [⟨.mv (.s 0), none⟩,
            ⟨.bin .leq (.r 0) (.c (.int .i64 51)), none⟩,
            ⟨.mv (.r 1), none⟩] [] [] [(10, 2, none)])
          (.cond (.s 10) (.seq (.reg [⟨.mv (.c (.int .i64 8)), none⟩] [] [] [(1, 0, none)])
           (.ret))
           (.seq (.reg [⟨.mv (.s 0), none⟩,
             ⟨.bin .leq (.r 0) (.c (.int .i64 53)), none⟩,
             ⟨.mv (.r 1), none⟩] [] [] [(11, 2, none)])
           (.cond (.s 11) (.seq (.reg [⟨.mv (.c (.int .i64 9)), none⟩] [] [] [(1, 0, none)])
            (.ret))
            (.seq (.reg [⟨.mv (.s 0), none⟩,
              ⟨.bin .leq (.r 0) (.c (.int .i64 55)), none⟩,
              ⟨.mv (.r 1), none⟩] [] [] [(12, 2, none)])
            (.cond (.s 12) (.seq (.reg [⟨.mv (.c (.int .i64 10)), none⟩] [] [] [(1, 0, none)])
             (.ret))
             (.seq (.reg [⟨.mv (.s 0), none⟩,
               ⟨.bin .leq (.r 0) (.c (.int .i64 57)), none⟩,
               ⟨.mv (.r 1), none⟩] [] [] [(13, 2, none)])
             (.cond (.s 13) (.seq (.reg [⟨.mv (.c (.int .i64 11)), none⟩] [] [] [(1, 0, none)])
              (.ret))
              (.skip))))))))))))))))))))))))))
 (.seq (.reg [⟨.mv (.c (.int .i64 12)), none⟩] [] [] [(1, 0, none)])
 (.ret)))⟩
/-- 29: (*undertow/deps.set).join -/
def h29 : Vm.Hint := ⟨[0, 1, 3, 4, 5, 6, 7, 8], [3], [], [[1], [0, 0], [0], [0, 0, 0, 0], [0, 0, 0, 0, 0, 0, 0, 0, 0, 0], [0, 0]], [([1], []), ([2], [(true, 0)]), ([], []), ([7], []), ([3, 4], []), ([], [])], []⟩
def ir_deps_set_joinl0 : C :=
 .seq (.reg [⟨.bin .lss (.s 6) (.c (.int .i64 8)), none⟩] [] [] [(7, 0, none)])
 (.seq (.cond (.s 7) (.skip)
  (.exit 0))
 (.seq (.block 1 (.seq (.seq (.reg [⟨.mv (.s 6), none⟩,
    ⟨.ixA 8 1 false (.s 5) (.s 6), none⟩,
    ⟨.mv (.r 0), none⟩,
    ⟨.mv (.r 1), none⟩] [] [] [(3, 2, none), (4, 3, none)])
  (.drop [7] []))
  (.seq (.reg [⟨.mv (.s 0), none⟩,
    ⟨.mv (.s 3), none⟩,
    ⟨.nilck (.r 0), none⟩,
    ⟨.iaA 8 1 (.r 2) (.r 1), none⟩,
    ⟨.load 0 false 1 (.r 3), none⟩,
    ⟨.mv (.s 4), none⟩,
    ⟨.bin .or (.r 4) (.r 5), none⟩,
    ⟨.nilck (.r 0), none⟩,
    ⟨.iaA 8 1 (.r 7) (.r 1), none⟩,
    ⟨.store 0 1 (.r 8) (.r 6), none⟩] [] [] [])
  (.drop [3, 4] []))))
 (.reg [⟨.bin .add (.s 6) (.c (.int .i64 1)), none⟩,
   ⟨.mv (.r 0), none⟩] [] [] [(6, 1, none)])))
def ir_deps_set_join : Vm.Fn := ⟨[0, 1, 3, 4, 5, 6, 7, 8], 1, 0, [],
 .seq (.seq (.reg [⟨.lbox 0 8 (.s 1), none⟩] [(true, 0)] [] [(2, 0, some 1)])
 (.drop [1] []))
 (.seq (.seq (.reg [⟨.load 0 true 8 (.s 2), none⟩,
   ⟨.mv (.c (.int .i64 0)), none⟩] [] [] [(5, 0, none), (6, 1, none)])
 (.drop [2] [(true, 0)]))
 (.block 0 (.loop ir_deps_set_joinl0)))⟩
/-- 30: undertow/ops.Sources -/
def h30 : Vm.Hint := ⟨[0, 1, 2, 3, 4, 6, 9, 10, 23, 31, 35, 40, 41, 42, 43, 47], [1], [4], [[1, 0], [0], [0, 0, 0], [0, 0], [0, 0], [0, 0], [0, 0], [0, 0], [0, 0, 0, 0, 0, 0, 0, 0], [0, 0], [0, 0], [0, 0], [0, 0, 0, 0, 0], [0, 0], [0, 0, 0], [0, 0, 0, 0, 0], [1], [0, 0, 0], [0], [0, 0, 0], [0, 0], [0, 0, 1, 2, 0], [0, 0], [0, 0]], [([0, 2], []), ([], []), ([], []), ([], []), ([], []), ([], []), ([], []), ([], []), ([1, 6, 7], [(true, 0)]), ([7], []), ([], []), ([], []), ([1, 6, 8], [(true, 0)]), ([6, 8], []), ([9], []), ([1, 10], [(true, 0)]), ([1, 9, 10], [(true, 0)]), ([3], []), ([], []), ([14], []), ([], []), ([5, 15], []), ([5, 15], []), ([4, 11, 12, 13, 14], [(false, 0)])], []⟩
def ir_ops_Sourcesl0 : C :=
 .seq (.reg [⟨.bin .lss (.s 13) (.s 12), none⟩] [] [] [(14, 0, none)])
 (.seq (.cond (.s 14) (.skip)
  (.exit 1))
 (.seq (.block 2 (.seq (.seq (.reg [⟨.iaS 1 (.s 11) (.s 13), none⟩,
    ⟨.load 0 false 1 (.r 0), none⟩,
    ⟨.mv (.r 1), none⟩] [] [] [(5, 2, none)])
  (.drop [14] []))
  (.seq (.reg [⟨.mv (.s 5), none⟩,
    ⟨.bin .neq (.r 0) (.c (.int .i64 0)), none⟩] [] [] [(15, 1, none)])
  (.cond (.s 15) (.seq (.reg [⟨.mv (.s 4), none⟩,
     ⟨.mv (.s 5), none⟩,
     ⟨.lit 1 1 [[.int .i64 0]] [(0, (.r 1))], none⟩,
     ⟨.app 2 1 8 (.r 0) (.r 2), none⟩,
     ⟨.mv (.r 3), none⟩] [] [] [(4, 4, some 0)])
   (.drop [5, 15] []))
   (.skip)))))
 (.seq (.reg [⟨.bin .add (.s 13) (.c (.int .i64 1)), none⟩,
   ⟨.mv (.r 0), none⟩] [] [] [(13, 1, none)])
 (.drop [5, 15] []))))
def ir_ops_Sources : Vm.Fn := ⟨[0, 1, 2, 3, 4, 6, 9, 10, 23, 31, 35, 40, 41, 42, 43, 47], 1, 1, [.slot 2],
 .seq (.seq (.reg [⟨.lbox 0 9 (.s 0), none⟩,
   ⟨.mv (.c (.nils)), none⟩] [(true, 0)] [] [(1, 0, some 1), (2, 1, none)])
 (.drop [0, 2] []))
 (.seq (.reg [⟨.mv (.c (.nils)), none⟩] [] [] [(3, 0, none)])
 (.seq (.seq (.reg [⟨.off 0 (.s 1), none⟩,
   ⟨.load 0 false 1 (.r 0), none⟩,
   ⟨.call .val n_ops_Sort [(.r 1)], none⟩] [] [] [(6, 2, none)])
 (.block 0 (.seq (.seq (.reg [⟨.bin .eql (.s 6) (.c (.int .i64 3)), none⟩,
    ⟨.mv (.r 0), none⟩] [] [] [(7, 1, none)])
  (.cond (.s 7) (.skip)
   (.seq (.reg [⟨.bin .eql (.s 6) (.c (.int .i64 5)), none⟩,
     ⟨.mv (.r 0), none⟩] [] [] [(7, 1, none)])
   (.cond (.s 7) (.skip)
    (.seq (.reg [⟨.bin .eql (.s 6) (.c (.int .i64 7)), none⟩,
      ⟨.mv (.r 0), none⟩] [] [] [(7, 1, none)])
    (.cond (.s 7) (.skip)
     (.seq (.reg [⟨.bin .eql (.s 6) (.c (.int .i64 11)), none⟩,
       ⟨.mv (.r 0), none⟩] [] [] [(7, 1, none)])
     (.cond (.s 7) (.skip)
      (.reg [⟨.bin .eql (.s 6) (.c (.int .i64 12)), none⟩,
        ⟨.mv (.r 0), none⟩] [] [] [(7, 1, none)])))))))))
  (.cond (.s 7) (.seq (.reg [⟨.off 2 (.s 1), none⟩,
     ⟨.load 0 false 1 (.r 0), none⟩,
     ⟨.call .val n_ops_register [(.r 1)], none⟩,
     ⟨.off 3 (.s 1), none⟩,
     ⟨.load 0 false 1 (.r 3), none⟩,
     ⟨.call .val n_ops_register [(.r 4)], none⟩,
     ⟨.lit 0 1 [[.int .i64 0], [.int .i64 0]] [(0, (.r 2)), (1, (.r 5))], none⟩,
     ⟨.mv (.r 6), none⟩] [] [(1, 4), (2, 4)] [(3, 7, none)])
   (.drop [1, 6, 7] [(true, 0)]))
   (.seq (.seq (.seq (.reg [⟨.bin .eql (.s 6) (.c (.int .i64 4)), none⟩,
     ⟨.mv (.r 0), none⟩] [] [] [(8, 1, none)])
   (.drop [7] []))
   (.cond (.s 8) (.skip)
    (.seq (.reg [⟨.bin .eql (.s 6) (.c (.int .i64 6)), none⟩,
      ⟨.mv (.r 0), none⟩] [] [] [(8, 1, none)])
    (.cond (.s 8) (.skip)
     (.reg [⟨.bin .eql (.s 6) (.c (.int .i64 10)), none⟩,
       ⟨.mv (.r 0), none⟩] [] [] [(8, 1, none)])))))
   (.cond (.s 8) (.seq (.reg [⟨.off 2 (.s 1), none⟩,
      ⟨.load 0 false 1 (.r 0), none⟩,
      ⟨.call .val n_ops_register [(.r 1)], none⟩,
      ⟨.lit 0 1 [[.int .i64 0]] [(0, (.r 2))], none⟩,
      ⟨.mv (.r 3), none⟩] [] [] [(3, 4, none)])
    (.drop [1, 6, 8] [(true, 0)]))
    (.seq (.seq (.reg [⟨.bin .eql (.s 6) (.c (.int .i64 2)), none⟩,
      ⟨.mv (.r 0), none⟩] [] [] [(9, 1, none)])
    (.drop [6, 8] []))
    (.cond (.s 9) (.seq (.seq (.reg [⟨.off 0 (.s 1), none⟩,
       ⟨.load 0 false 1 (.r 0), none⟩,
       ⟨.bin .eql (.r 1) (.c (.int .i64 4)), none⟩] [] [] [(10, 2, none)])
     (.drop [9] []))
     (.cond (.s 10) (.seq (.reg [⟨.off 2 (.s 1), none⟩,
        ⟨.load 0 false 1 (.r 0), none⟩,
        ⟨.call .val n_ops_register [(.r 1)], none⟩,
        ⟨.lit 0 1 [[.int .i64 0]] [(0, (.r 2))], none⟩,
        ⟨.mv (.r 3), none⟩] [] [] [(3, 4, none)])
      (.drop [1, 10] [(true, 0)]))
      (.skip)))
     (.skip)))))))))
 (.seq (.seq (.reg [⟨.onil 0, none⟩] [(false, 0)] [] [(4, 0, some 0)])
 (.drop [1, 9, 10] [(true, 0)]))
 (.seq (.seq (.seq (.reg [⟨.mv (.s 3), none⟩,
   ⟨.len 1 (.r 0), none⟩,
   ⟨.mv (.c (.int .i64 0)), none⟩] [] [] [(11, 0, none), (12, 1, none), (13, 2, none)])
 (.drop [3] []))
 (.block 1 (.loop ir_ops_Sourcesl0)))
 (.seq (.seq (.reg [⟨.mv (.s 4), none⟩,
   ⟨.mv (.r 0), none⟩] [] [] [(2, 1, none)])
 (.drop [4, 11, 12, 13, 14] [(false, 0)]))
 (.ret))))))⟩
/-- 31: undertow/deps.Data$1 -/
def h31 : Vm.Hint := ⟨[1, 2, 4, 6, 10], [4, 6], [], [[1, 2], [0, 0, 0, 0], [0, 0], [0, 0, 0, 0, 0]], [([0], []), ([], []), ([1, 2, 4], [(true, 0)]), ([1, 2, 4], [(true, 0)])], []⟩
def ir_deps_Data_1 : Vm.Fn := ⟨[1, 2, 4, 6, 10], 2, 0, [.cell 3 true 8],
 .seq (.seq (.reg [⟨.lbox 0 9 (.s 0), none⟩,
   ⟨.lalloc 1 [.int .u64 0, .int .u64 0, .int .u64 0, .int .u64 0, .int .u64 0, .int .u64 0, .int .u64 0, .int .u64 0], none⟩] [(true, 0), (true, 1)] [] [(2, 0, some 1), (3, 1, some 3)])
 (.drop [0] []))
 (.seq (.seq (.reg [⟨.off 0 (.s 2), none⟩,
   ⟨.load 0 false 1 (.r 0), none⟩,
   ⟨.call .val n_ops_Stores [(.r 1)], none⟩,
   ⟨.un .not (.r 2), none⟩] [] [] [(4, 3, none)])
 (.cond (.s 4) (.seq (.seq (.reg [⟨.build [.int .u64 0, .int .u64 0, .int .u64 0, .int .u64 0, .int .u64 0, .int .u64 0, .int .u64 0, .int .u64 0] [], none⟩,
    ⟨.store 0 8 (.s 3) (.r 0), none⟩] [] [] [])
  (.drop [1, 2, 4] [(true, 0)]))
  (.ret))
  (.skip)))
 (.seq (.seq (.reg [⟨.mv (.s 1), none⟩,
   ⟨.load 0 true 9 (.s 2), none⟩,
   ⟨.call .val n_deps_second [(.r 1)], none⟩,
   ⟨.call .val n_deps_roots_of [(.r 0), (.r 2)], none⟩,
   ⟨.store 0 8 (.s 3) (.r 3), none⟩] [] [] [])
 (.drop [1, 2, 4] [(true, 0)]))
 (.ret)))⟩
/-- 32: undertow/ops.Stores -/
def h32 : Vm.Hint := ⟨[0, 2, 4, 5], [], [], [[0], [0, 0], [0, 0], [0, 0], [0, 0], [0], [0]], [([1], []), ([0], []), ([], []), ([], []), ([2], []), ([2, 3], []), ([2, 3], [])], []⟩
def ir_ops_Stores : Vm.Fn := ⟨[0, 2, 4, 5], 0, 0, [.slot 1],
 .seq (.seq (.reg [⟨.mv (.c (.bool false)), none⟩] [] [] [(1, 0, none)])
 (.drop [1] []))
 (.seq (.seq (.seq (.reg [⟨.mv (.s 0), none⟩,
   ⟨.call .val n_ops_Sort [(.r 0)], none⟩] [] [] [(2, 1, none)])
 (.drop [0] []))
 (.block 0 (.seq (.seq (.reg [⟨.bin .eql (.s 2) (.c (.int .i64 5)), none⟩,
    ⟨.mv (.r 0), none⟩] [] [] [(3, 1, none)])
  (.cond (.s 3) (.skip)
   (.seq (.reg [⟨.bin .eql (.s 2) (.c (.int .i64 11)), none⟩,
     ⟨.mv (.r 0), none⟩] [] [] [(3, 1, none)])
   (.cond (.s 3) (.skip)
    (.seq (.reg [⟨.bin .eql (.s 2) (.c (.int .i64 12)), none⟩,
      ⟨.mv (.r 0), none⟩] [] [] [(3, 1, none)])
    (.drop [2] []))))))
  (.cond (.s 3) (.seq (.seq (.reg [⟨.mv (.c (.bool true)), none⟩] [] [] [(1, 0, none)])
   (.drop [2, 3] []))
   (.ret))
   (.skip)))))
 (.seq (.seq (.reg [⟨.mv (.c (.bool false)), none⟩] [] [] [(1, 0, none)])
 (.drop [2, 3] []))
 (.ret)))⟩
/-- 33: undertow/deps.second -/
def h33 : Vm.Hint := ⟨[0, 1, 2], [1], [], [[1, 0], [0, 0], [0, 0, 0]], [([0, 2], []), ([], []), ([1], [(true, 0)])], []⟩
def ir_deps_second : Vm.Fn := ⟨[0, 1, 2], 1, 0, [.slot 2],
 .seq (.seq (.reg [⟨.lbox 0 9 (.s 0), none⟩,
   ⟨.mv (.c (.nils)), none⟩] [(true, 0)] [] [(1, 0, some 1), (2, 1, none)])
 (.drop [0, 2] []))
 (.seq (.reg [⟨.off 2 (.s 1), none⟩,
   ⟨.store 0 1 (.r 0) (.c (.int .i64 0)), none⟩] [] [] [])
 (.seq (.seq (.reg [⟨.load 0 true 9 (.s 1), none⟩,
   ⟨.call .val n_ops_Sources [(.r 0)], none⟩,
   ⟨.mv (.r 1), none⟩] [] [] [(2, 2, none)])
 (.drop [1] [(true, 0)]))
 (.ret)))⟩
/-- 34: undertow/undertowref19.New -/
def h34 : Vm.Hint := ⟨[0, 2, 3, 4, 7], [], [], [[0], [0], [0], [0, 0, 0], [0, 0, 0], [0, 0, 0, 1, 0, 0], [0, 0]], [([1], []), ([], []), ([], []), ([], []), ([], []), ([4], []), ([0, 2, 3, 4], [])], []⟩
def ir_undertowref19_Newl0 : C :=
 .seq (.seq (.reg [⟨.mv (.s 3), none⟩,
   ⟨.mv (.s 0), none⟩,
   ⟨.bin .lss (.r 0) (.r 1), none⟩] [] [] [(4, 2, none)])
 (.cond (.s 4) (.skip)
  (.exit 0)))
 (.seq (.block 1 (.seq (.reg [⟨.mv (.s 2), none⟩,
    ⟨.mv (.s 0), none⟩,
    ⟨.mksl [.bool false] 1 (.r 1) (.r 1), none⟩,
    ⟨.lit 1 1 [[.nils]] [(0, (.r 2))], none⟩,
    ⟨.app 0 1 24 (.r 0) (.r 3), none⟩,
    ⟨.mv (.r 4), none⟩] [] [] [(2, 5, none)])
  (.drop [4] [])))
 (.reg [⟨.mv (.s 3), none⟩,
   ⟨.bin .add (.r 0) (.c (.int .i64 1)), none⟩,
   ⟨.mv (.r 1), none⟩] [] [] [(3, 2, none)]))
def ir_undertowref19_New : Vm.Fn := ⟨[0, 2, 3, 4, 7], 0, 0, [.slot 1],
 .seq (.seq (.reg [⟨.mv (.c (.nils)), none⟩] [] [] [(1, 0, none)])
 (.drop [1] []))
 (.seq (.reg [⟨.mv (.c (.nils)), none⟩] [] [] [(2, 0, none)])
 (.seq (.seq (.reg [⟨.mv (.c (.int .i64 0)), none⟩] [] [] [(3, 0, none)])
 (.block 0 (.loop ir_undertowref19_Newl0)))
 (.seq (.seq (.reg [⟨.mv (.s 2), none⟩,
   ⟨.mv (.r 0), none⟩] [] [] [(1, 1, none)])
 (.drop [0, 2, 3, 4] []))
 (.ret))))⟩
/-- 35: undertow/undertowref05.Register -/
def h35 : Vm.Hint := ⟨[0, 2, 8], [], [], [[0], [0, 0, 0, 0, 0, 0], [0], [0, 0]], [([1], []), ([], []), ([0, 2], []), ([0, 2], [])], []⟩
def ir_undertowref05_Register : Vm.Fn := ⟨[0, 2, 8], 0, 0, [.slot 1],
 .seq (.seq (.reg [⟨.mv (.c (.int .i64 0)), none⟩] [] [] [(1, 0, none)])
 (.drop [1] []))
 (.seq (.seq (.reg [⟨.mv (.s 0), none⟩,
   ⟨.bin .lss (.r 0) (.c (.int .i64 0)), none⟩,
   ⟨.mv (.r 1), none⟩,
   ⟨.mv (.s 0), some (2, false)⟩,
   ⟨.bin .gtr (.r 3) (.c (.int .i64 31)), some (2, false)⟩,
   ⟨.pick (.r 2) (.c (.bool true)) (.r 4), none⟩] [] [] [(2, 5, none)])
 (.cond (.s 2) (.seq (.seq (.reg [⟨.mv (.c (.int .i64 0)), none⟩] [] [] [(1, 0, none)])
  (.drop [0, 2] []))
  (.ret))
  (.skip)))
 (.seq (.seq (.reg [⟨.mv (.s 0), none⟩,
   ⟨.mv (.r 0), none⟩] [] [] [(1, 1, none)])
 (.drop [0, 2] []))
 (.ret)))⟩
/-- 36: undertow/undertowref05.Size -/
def h36 : Vm.Hint := ⟨[0, 2, 3, 4, 5, 19, 26, 32, 33, 35, 37], [], [], [[0], [0, 0, 0], [0, 0, 0], [0, 0, 0, 0, 0, 0, 0, 0, 0, 0], [0], [0, 0, 0, 0, 0, 0], [0, 0], [0, 0, 0, 0, 0, 0], [0], [0, 0], [0], [0, 0], [0], [0, 0], [0], [0]], [], []⟩
def ir_undertowref05_Size : Vm.Fn := ⟨[0, 2, 3, 4, 5, 19, 26, 32, 33, 35, 37], 0, 0, [.slot 1],
 .seq (.reg [⟨.mv (.c (.int .i64 0)), none⟩] [] [] [(1, 0, none)])
 (.seq (.reg [⟨.mv (.s 0), none⟩,
   ⟨.call .val n_undertowref05_Name [(.r 0)], none⟩,
   ⟨.mv (.r 1), none⟩] [] [] [(2, 2, none)])
 (.seq (.reg [⟨.mv (.s 0), none⟩,
   ⟨.call .val n_undertowref05_Sort [(.r 0)], none⟩,
   ⟨.mv (.r 1), none⟩] [] [] [(3, 2, none)])
 (.seq (.seq (.reg [⟨.mv (.s 3), none⟩,
   ⟨.bin .lss (.r 0) (.c (.int .i64 4)), none⟩,
   ⟨.mv (.r 1), none⟩,
   ⟨.mv (.s 3), some (2, false)⟩,
   ⟨.bin .gtr (.r 3) (.c (.int .i64 5)), some (2, false)⟩,
   ⟨.mv (.r 4), some (2, false)⟩,
   ⟨.mv (.s 3), some (5, true)⟩,
   ⟨.bin .lss (.r 6) (.c (.int .i64 10)), some (5, true)⟩,
   ⟨.pick (.r 5) (.r 7) (.c (.bool false)), some (2, false)⟩,
   ⟨.pick (.r 2) (.c (.bool true)) (.r 8), none⟩] [] [] [(5, 9, none)])
 (.cond (.s 5) (.seq (.reg [⟨.mv (.c (.int .i64 0)), none⟩] [] [] [(1, 0, none)])
  (.ret))
  (.skip)))
 (.seq (.reg [⟨.mv (.s 2), none⟩,
   ⟨.mv (.s 2), none⟩,
   ⟨.len 0 (.r 1), none⟩,
   ⟨.bin .sub (.r 2) (.c (.int .i64 1)), none⟩,
   ⟨.ixS (.r 0) (.r 3), none⟩,
   ⟨.mv (.r 4), none⟩] [] [] [(4, 5, none)])
 (.seq (.seq (.reg [⟨.mv (.s 4), none⟩,
   ⟨.bin .eql (.r 0) (.c (.int .u8 117)), none⟩] [] [] [(6, 1, none)])
 (.cond (.s 6) (.reg [⟨.mv (.s 2), none⟩,
    ⟨.mv (.s 2), none⟩,
    ⟨.len 0 (.r 1), none⟩,
    ⟨.bin .sub (.r 2) (.c (.int .i64 2)), none⟩,
    ⟨.ixS (.r 0) (.r 3), none⟩,
    ⟨.mv (.r 4), none⟩] [] [] [(4, 5, none)])
  (.skip)))
 (.seq (.seq (.reg [⟨.mv (.s 4), none⟩] [] [] [(7, 0, none)])
 (.block 0 (.seq (.reg [⟨.bin .eql (.s 7) (.c (.int .u8 98)), none⟩,
    ⟨.mv (.r 0), none⟩] [] [] [(8, 1, none)])
  (.cond (.s 8) (.seq (.reg [⟨.mv (.c (.int .i64 1)), none⟩] [] [] [(1, 0, none)])
   (.ret))
   (.seq (.reg [⟨.bin .eql (.s 7) (.c (.int .u8 104)), none⟩,
     ⟨.mv (.r 0), none⟩] [] [] [(9, 1, none)])
   (.cond (.s 9) (.seq (.reg [⟨.mv (.c (.int .i64 2)), none⟩] [] [] [(1, 0, none)])
    (.ret))
    (.seq (.reg [⟨.bin .eql (.s 7) (.c (.int .u8 119)), none⟩,
      ⟨.mv (.r 0), none⟩] [] [] [(10, 1, none)])
    (.cond (.s 10) (.seq (.reg [⟨.mv (.c (.int .i64 4)), none⟩] [] [] [(1, 0, none)])
     (.ret))
     (.skip)))))))))
 (.seq (.reg [⟨.mv (.c (.int .i64 8)), none⟩] [] [] [(1, 0, none)])
 (.ret))))))))⟩
/-- 37: undertow/undertowref05.Sources -/
def h37 : Vm.Hint := ⟨[0, 1, 2, 3, 12, 26], [1], [3], [[1, 0], [1], [0, 0, 0, 0, 0, 0, 0, 0, 0], [0, 0, 0, 1, 2, 0], [0, 0, 0, 0, 0, 0, 0, 0, 0], [0, 0, 0, 1, 2, 0], [0, 0]], [([0, 2], []), ([], []), ([], []), ([4], []), ([4], []), ([1, 5], [(true, 0)]), ([1, 3, 5], [(false, 0), (true, 0)])], []⟩
def ir_undertowref05_Sources : Vm.Fn := ⟨[0, 1, 2, 3, 12, 26], 1, 1, [.slot 2],
 .seq (.seq (.reg [⟨.lbox 0 9 (.s 0), none⟩,
   ⟨.mv (.c (.nils)), none⟩] [(true, 0)] [] [(1, 0, some 1), (2, 1, none)])
 (.drop [0, 2] []))
 (.seq (.reg [⟨.onil 0, none⟩] [(false, 0)] [] [(3, 0, some 0)])
 (.seq (.seq (.reg [⟨.off 0 (.s 1), none⟩,
   ⟨.load 0 false 1 (.r 0), none⟩,
   ⟨.call .val n_undertowref05_First [(.r 1)], none⟩,
   ⟨.mv (.r 2), none⟩,
   ⟨.off 2 (.s 1), some (3, true)⟩,
   ⟨.load 0 false 1 (.r 4), some (3, true)⟩,
   ⟨.call .val n_undertowref05_Register [(.r 5)], some (3, true)⟩,
   ⟨.bin .gtr (.r 6) (.c (.int .i64 0)), some (3, true)⟩,
   ⟨.pick (.r 3) (.r 7) (.c (.bool false)), none⟩] [] [] [(4, 8, none)])
 (.cond (.s 4) (.seq (.reg [⟨.mv (.s 3), none⟩,
    ⟨.off 2 (.s 1), none⟩,
    ⟨.load 0 false 1 (.r 1), none⟩,
    ⟨.lit 1 1 [[.int .i64 0]] [(0, (.r 2))], none⟩,
    ⟨.app 2 1 8 (.r 0) (.r 3), none⟩,
    ⟨.mv (.r 4), none⟩] [] [] [(3, 5, some 0)])
  (.drop [4] []))
  (.skip)))
 (.seq (.seq (.seq (.reg [⟨.off 0 (.s 1), none⟩,
   ⟨.load 0 false 1 (.r 0), none⟩,
   ⟨.call .val n_undertowref05_Second [(.r 1)], none⟩,
   ⟨.mv (.r 2), none⟩,
   ⟨.off 3 (.s 1), some (3, true)⟩,
   ⟨.load 0 false 1 (.r 4), some (3, true)⟩,
   ⟨.call .val n_undertowref05_Register [(.r 5)], some (3, true)⟩,
   ⟨.bin .gtr (.r 6) (.c (.int .i64 0)), some (3, true)⟩,
   ⟨.pick (.r 3) (.r 7) (.c (.bool false)), none⟩] [] [] [(5, 8, none)])
 (.drop [4] []))
 (.cond (.s 5) (.seq (.reg [⟨.mv (.s 3), none⟩,
    ⟨.off 3 (.s 1), none⟩,
    ⟨.load 0 false 1 (.r 1), none⟩,
    ⟨.lit 1 1 [[.int .i64 0]] [(0, (.r 2))], none⟩,
    ⟨.app 2 1 8 (.r 0) (.r 3), none⟩,
    ⟨.mv (.r 4), none⟩] [] [] [(3, 5, some 0)])
  (.drop [1, 5] [(true, 0)]))
  (.skip)))
 (.seq (.seq (.reg [⟨.mv (.s 3), none⟩,
   ⟨.mv (.r 0), none⟩] [] [] [(2, 1, none)])
 (.drop [1, 3, 5] [(false, 0), (true, 0)]))
 (.ret)))))⟩
/-- 38: undertow/undertowref21.Into -/
def h38 : Vm.Hint := ⟨[0, 1, 4, 5, 6, 18, 43], [], [5, 4], [[2], [1], [0], [0, 0, 0, 0, 0, 0, 0, 0, 0, 0, 0, 0], [0, 0, 0, 0, 0, 1, 2, 0], [0, 0, 0], [0, 0, 1, 2, 0], [0, 0, 0, 0, 0, 0, 0, 0, 0, 0, 0, 0], [0, 0, 0], [0, 0, 0, 0, 2, 0]], [([2], [(false, 1)]), ([], []), ([], []), ([], []), ([5], []), ([], []), ([5], []), ([1], []), ([6], []), ([0, 3, 4, 6], [(false, 0)])], []⟩
def ir_undertowref21_Intol0 : C :=
 .seq (.seq (.reg [⟨.mv (.s 4), none⟩,
   ⟨.mv (.s 0), none⟩,
   ⟨.len 1 (.r 1), none⟩,
   ⟨.bin .lss (.r 0) (.r 2), none⟩,
   ⟨.mv (.r 3), none⟩,
   ⟨.mv (.s 0), some (4, true)⟩,
   ⟨.mv (.s 4), some (4, true)⟩,
   ⟨.iaS 1 (.r 5) (.r 6), some (4, true)⟩,
   ⟨.load 0 false 1 (.r 7), some (4, true)⟩,
   ⟨.mv (.s 1), some (4, true)⟩,
   ⟨.bin .lss (.r 8) (.r 9), some (4, true)⟩,
   ⟨.pick (.r 4) (.r 10) (.c (.bool false)), none⟩] [] [] [(5, 11, none)])
 (.cond (.s 5) (.skip)
  (.exit 0)))
 (.block 1 (.seq (.seq (.reg [⟨.mv (.s 3), none⟩,
    ⟨.mv (.s 0), none⟩,
    ⟨.mv (.s 4), none⟩,
    ⟨.iaS 1 (.r 1) (.r 2), none⟩,
    ⟨.load 0 false 1 (.r 3), none⟩,
    ⟨.lit 1 1 [[.int .i64 0]] [(0, (.r 4))], none⟩,
    ⟨.app 2 1 8 (.r 0) (.r 5), none⟩,
    ⟨.mv (.r 6), none⟩] [] [] [(3, 7, some 0)])
  (.drop [5] []))
  (.reg [⟨.mv (.s 4), none⟩,
    ⟨.bin .add (.r 0) (.c (.int .i64 1)), none⟩,
    ⟨.mv (.r 1), none⟩] [] [] [(4, 2, none)])))
def ir_undertowref21_Into : Vm.Fn := ⟨[0, 1, 4, 5, 6, 18, 43], 0, 2, [.slot 2],
 .seq (.seq (.reg [⟨.onil 1, none⟩] [(false, 1)] [] [(2, 0, some 2)])
 (.drop [2] [(false, 1)]))
 (.seq (.reg [⟨.onil 0, none⟩] [(false, 0)] [] [(3, 0, some 0)])
 (.seq (.reg [⟨.mv (.c (.int .i64 0)), none⟩] [] [] [(4, 0, none)])
 (.seq (.block 0 (.loop ir_undertowref21_Intol0))
 (.seq (.seq (.reg [⟨.mv (.s 3), none⟩,
   ⟨.mv (.s 1), none⟩,
   ⟨.lit 1 1 [[.int .i64 0]] [(0, (.r 1))], none⟩,
   ⟨.app 2 1 8 (.r 0) (.r 2), none⟩,
   ⟨.mv (.r 3), none⟩] [] [] [(3, 4, some 0)])
 (.drop [5] []))
 (.seq (.seq (.seq (.reg [⟨.mv (.s 4), none⟩,
   ⟨.mv (.s 0), none⟩,
   ⟨.len 1 (.r 1), none⟩,
   ⟨.bin .lss (.r 0) (.r 2), none⟩,
   ⟨.mv (.r 3), none⟩,
   ⟨.mv (.s 0), some (4, true)⟩,
   ⟨.mv (.s 4), some (4, true)⟩,
   ⟨.iaS 1 (.r 5) (.r 6), some (4, true)⟩,
   ⟨.load 0 false 1 (.r 7), some (4, true)⟩,
   ⟨.mv (.s 1), some (4, true)⟩,
   ⟨.bin .eql (.r 8) (.r 9), some (4, true)⟩,
   ⟨.pick (.r 4) (.r 10) (.c (.bool false)), none⟩] [] [] [(6, 11, none)])
 (.drop [1] []))
 (.cond (.s 6) (.seq (.reg [⟨.mv (.s 4), none⟩,
    ⟨.bin .add (.r 0) (.c (.int .i64 1)), none⟩,
    ⟨.mv (.r 1), none⟩] [] [] [(4, 2, none)])
  (.drop [6] []))
  (.skip)))
 (.seq (.seq (.reg [⟨.mv (.s 3), none⟩,
   ⟨.mv (.s 0), none⟩,
   ⟨.mv (.s 4), none⟩,
   ⟨.slc 1 (.r 1) (some (.r 2)) none none, none⟩,
   ⟨.app 2 1 8 (.r 0) (.r 3), none⟩,
   ⟨.mv (.r 4), none⟩] [] [] [(2, 5, some 2)])
 (.drop [0, 3, 4, 6] [(false, 0)]))
 (.ret)))))))⟩
/-- 39: (*undertow/deps.roots).behind -/
def h39 : Vm.Hint := ⟨[0, 1, 2, 5, 6, 7, 8, 12, 16, 28], [5, 7], [], [[1], [0, 0, 0], [0, 0], [2], [0, 0, 0, 0], [0, 0, 0], [0, 0, 0, 0, 0, 0, 0, 0, 0, 0], [0, 0, 0], [0, 0, 0], [0, 0, 0, 0, 0], [0, 0, 0, 0, 0, 0]], [([2], []), ([], []), ([], []), ([7], []), ([], []), ([], []), ([1, 3, 6, 8], [(true, 0)]), ([1, 8], []), ([6], []), ([3, 6, 9], [(true, 0)]), ([0, 3, 4, 5, 6, 9], [(true, 1), (true, 0)])], []⟩
def ir_deps_roots_behind : Vm.Fn := ⟨[0, 1, 2, 5, 6, 7, 8, 12, 16, 28], 2, 0, [],
 .seq (.seq (.reg [⟨.lbox 0 9 (.s 2), none⟩] [(true, 0)] [] [(3, 0, some 1)])
 (.drop [2] []))
 (.seq (.reg [⟨.load 0 true 9 (.s 3), none⟩,
   ⟨.call .val n_ops_Target [(.r 0)], none⟩,
   ⟨.mv (.r 1), none⟩] [] [] [(4, 2, none)])
 (.seq (.seq (.reg [⟨.mv (.s 4), none⟩,
   ⟨.bin .eql (.r 0) (.c (.int .i64 0)), none⟩] [] [] [(7, 1, none)])
 (.cond (.s 7) (.ret)
  (.skip)))
 (.seq (.seq (.reg [⟨.lalloc 1 [.int .u64 0, .int .u64 0, .int .u64 0, .int .u64 0, .int .u64 0, .int .u64 0, .int .u64 0, .int .u64 0], none⟩] [(true, 1)] [] [(5, 0, some 3)])
 (.drop [7] []))
 (.seq (.seq (.reg [⟨.off 0 (.s 3), none⟩,
   ⟨.load 0 false 1 (.r 0), none⟩,
   ⟨.call .val n_ops_Sort [(.r 1)], none⟩,
   ⟨.mv (.r 2), none⟩] [] [] [(6, 3, none)])
 (.block 0 (.seq (.reg [⟨.load 0 true 9 (.s 3), none⟩,
    ⟨.call .val n_deps_gives [(.r 0)], none⟩,
    ⟨.mv (.r 1), none⟩] [] [] [(8, 2, none)])
  (.cond (.s 8) (.seq (.reg [⟨.mv (.s 1), none⟩,
     ⟨.bin .quo (.r 0) (.c (.int .i64 64)), none⟩,
     ⟨.iaA 8 1 (.s 5) (.r 1), none⟩,
     ⟨.load 0 false 1 (.r 2), none⟩,
     ⟨.mv (.s 1), none⟩,
     ⟨.bin .rem (.r 4) (.c (.int .i64 64)), none⟩,
     ⟨.bin .shl (.c (.int .u64 1)) (.r 5), none⟩,
     ⟨.bin .or (.r 3) (.r 6), none⟩,
     ⟨.iaA 8 1 (.s 5) (.r 1), none⟩,
     ⟨.store 0 1 (.r 8) (.r 7), none⟩] [] [] [])
   (.drop [1, 3, 6, 8] [(true, 0)]))
   (.seq (.seq (.seq (.reg [⟨.mv (.s 6), none⟩,
     ⟨.bin .eql (.r 0) (.c (.int .i64 6)), none⟩,
     ⟨.mv (.r 1), none⟩] [] [] [(9, 2, none)])
   (.drop [1, 8] []))
   (.cond (.s 9) (.skip)
    (.seq (.reg [⟨.mv (.s 6), none⟩,
      ⟨.bin .eql (.r 0) (.c (.int .i64 7)), none⟩,
      ⟨.mv (.r 1), none⟩] [] [] [(9, 2, none)])
    (.drop [6] []))))
   (.cond (.s 9) (.seq (.reg [⟨.mv (.s 0), none⟩,
      ⟨.load 0 true 9 (.s 3), none⟩,
      ⟨.call .val n_ops_Sources [(.r 1)], none⟩,
      ⟨.call .val n_deps_roots_of [(.r 0), (.r 2)], none⟩,
      ⟨.store 0 8 (.s 5) (.r 3), none⟩] [] [] [])
    (.drop [3, 6, 9] [(true, 0)]))
    (.skip)))))))
 (.seq (.reg [⟨.mv (.s 0), none⟩,
   ⟨.mv (.s 4), none⟩,
   ⟨.load 0 true 8 (.s 5), none⟩,
   ⟨.nilck (.r 0), none⟩,
   ⟨.iaA 32 8 (.r 3) (.r 1), none⟩,
   ⟨.store 0 8 (.r 4) (.r 2), none⟩] [] [] [])
 (.drop [0, 3, 4, 5, 6, 9] [(true, 1), (true, 0)]))))))⟩
/-- 40: (undertow/deps.set).each -/
def h40 : Vm.Hint := ⟨[0, 1, 2, 3, 4, 5, 6, 7, 8, 12], [1], [3], [[1, 0], [1], [0, 0], [0], [0, 0, 0, 0], [0, 0], [0, 0, 0, 0, 0], [0, 0, 0, 0, 0, 0, 1, 2, 0], [0, 0], [0, 0]], [([0, 2], []), ([], []), ([1], [(true, 0)]), ([], []), ([8], []), ([], []), ([], []), ([9], []), ([4, 5, 9], []), ([3, 6, 7, 8], [(false, 0)])], []⟩
def ir_deps_set_eachl0 : C :=
 .seq (.seq (.reg [⟨.mv (.s 5), none⟩,
   ⟨.bin .neq (.r 0) (.c (.int .u64 0)), none⟩] [] [] [(9, 1, none)])
 (.cond (.s 9) (.skip)
  (.exit 2)))
 (.seq (.block 3 (.seq (.reg [⟨.mv (.s 3), none⟩,
    ⟨.mv (.s 4), none⟩,
    ⟨.bin .mul (.r 1) (.c (.int .i64 64)), none⟩,
    ⟨.mv (.s 5), none⟩,
    ⟨.call .val n_math_bits_TrailingZeros64 [(.r 3)], none⟩,
    ⟨.bin .add (.r 2) (.r 4), none⟩,
    ⟨.lit 1 1 [[.int .i64 0]] [(0, (.r 5))], none⟩,
    ⟨.app 2 1 8 (.r 0) (.r 6), none⟩,
    ⟨.mv (.r 7), none⟩] [] [] [(3, 8, some 0)])
  (.drop [9] [])))
 (.reg [⟨.mv (.s 5), none⟩,
   ⟨.mv (.s 5), none⟩,
   ⟨.bin .sub (.r 1) (.c (.int .u64 1)), none⟩,
   ⟨.bin .and (.r 0) (.r 2), none⟩,
   ⟨.mv (.r 3), none⟩] [] [] [(5, 4, none)]))
def ir_deps_set_eachl1 : C :=
 .seq (.reg [⟨.bin .lss (.s 7) (.c (.int .i64 8)), none⟩] [] [] [(8, 0, none)])
 (.seq (.cond (.s 8) (.skip)
  (.exit 0))
 (.seq (.block 1 (.seq (.seq (.reg [⟨.mv (.s 7), none⟩,
    ⟨.ixA 8 1 false (.s 6) (.s 7), none⟩,
    ⟨.mv (.r 0), none⟩,
    ⟨.mv (.r 1), none⟩] [] [] [(4, 2, none), (5, 3, none)])
  (.drop [8] []))
  (.block 2 (.loop ir_deps_set_eachl0))))
 (.seq (.reg [⟨.bin .add (.s 7) (.c (.int .i64 1)), none⟩,
   ⟨.mv (.r 0), none⟩] [] [] [(7, 1, none)])
 (.drop [4, 5, 9] []))))
def ir_deps_set_each : Vm.Fn := ⟨[0, 1, 2, 3, 4, 5, 6, 7, 8, 12], 1, 1, [.slot 2],
 .seq (.seq (.reg [⟨.lbox 0 8 (.s 0), none⟩,
   ⟨.mv (.c (.nils)), none⟩] [(true, 0)] [] [(1, 0, some 1), (2, 1, none)])
 (.drop [0, 2] []))
 (.seq (.reg [⟨.onil 0, none⟩] [(false, 0)] [] [(3, 0, some 0)])
 (.seq (.seq (.seq (.reg [⟨.load 0 true 8 (.s 1), none⟩,
   ⟨.mv (.c (.int .i64 0)), none⟩] [] [] [(6, 0, none), (7, 1, none)])
 (.drop [1] [(true, 0)]))
 (.block 0 (.loop ir_deps_set_eachl1)))
 (.seq (.seq (.reg [⟨.mv (.s 3), none⟩,
   ⟨.mv (.r 0), none⟩] [] [] [(2, 1, none)])
 (.drop [3, 6, 7, 8] [(false, 0)]))
 (.ret))))⟩
/-- 41: (undertow/rel.row).each -/
def h41 : Vm.Hint := ⟨[0, 2, 3, 4, 5, 6, 7, 8, 9, 14], [], [3], [[0], [1], [0, 0, 0], [0], [0, 0, 0, 0, 0], [0, 0], [0, 0, 0, 0, 0], [0, 0, 0, 0, 0, 0, 1, 2, 0], [0, 0], [0, 0]], [([1], []), ([], []), ([0], []), ([], []), ([8], []), ([], []), ([], []), ([9], []), ([3, 4, 9], []), ([2, 5, 6, 7, 8], [(false, 0)])], []⟩
def ir_rel_row_eachl0 : C :=
 .seq (.seq (.reg [⟨.mv (.s 4), none⟩,
   ⟨.bin .neq (.r 0) (.c (.int .u64 0)), none⟩] [] [] [(9, 1, none)])
 (.cond (.s 9) (.skip)
  (.exit 2)))
 (.seq (.block 3 (.seq (.reg [⟨.mv (.s 2), none⟩,
    ⟨.mv (.s 3), none⟩,
    ⟨.bin .mul (.r 1) (.c (.int .i64 64)), none⟩,
    ⟨.mv (.s 4), none⟩,
    ⟨.call .val n_math_bits_TrailingZeros64 [(.r 3)], none⟩,
    ⟨.bin .add (.r 2) (.r 4), none⟩,
    ⟨.lit 1 1 [[.int .i64 0]] [(0, (.r 5))], none⟩,
    ⟨.app 2 1 8 (.r 0) (.r 6), none⟩,
    ⟨.mv (.r 7), none⟩] [] [] [(2, 8, some 0)])
  (.drop [9] [])))
 (.reg [⟨.mv (.s 4), none⟩,
   ⟨.mv (.s 4), none⟩,
   ⟨.bin .sub (.r 1) (.c (.int .u64 1)), none⟩,
   ⟨.bin .and (.r 0) (.r 2), none⟩,
   ⟨.mv (.r 3), none⟩] [] [] [(4, 4, none)]))
def ir_rel_row_eachl1 : C :=
 .seq (.reg [⟨.bin .lss (.s 7) (.s 6), none⟩] [] [] [(8, 0, none)])
 (.seq (.cond (.s 8) (.skip)
  (.exit 0))
 (.seq (.block 1 (.seq (.seq (.reg [⟨.mv (.s 7), none⟩,
    ⟨.iaS 1 (.s 5) (.s 7), none⟩,
    ⟨.load 0 false 1 (.r 1), none⟩,
    ⟨.mv (.r 0), none⟩,
    ⟨.mv (.r 2), none⟩] [] [] [(3, 3, none), (4, 4, none)])
  (.drop [8] []))
  (.block 2 (.loop ir_rel_row_eachl0))))
 (.seq (.reg [⟨.bin .add (.s 7) (.c (.int .i64 1)), none⟩,
   ⟨.mv (.r 0), none⟩] [] [] [(7, 1, none)])
 (.drop [3, 4, 9] []))))
def ir_rel_row_each : Vm.Fn := ⟨[0, 2, 3, 4, 5, 6, 7, 8, 9, 14], 0, 1, [.slot 1],
 .seq (.seq (.reg [⟨.mv (.c (.nils)), none⟩] [] [] [(1, 0, none)])
 (.drop [1] []))
 (.seq (.reg [⟨.onil 0, none⟩] [(false, 0)] [] [(2, 0, some 0)])
 (.seq (.seq (.seq (.reg [⟨.mv (.s 0), none⟩,
   ⟨.len 1 (.r 0), none⟩,
   ⟨.mv (.c (.int .i64 0)), none⟩] [] [] [(5, 0, none), (6, 1, none), (7, 2, none)])
 (.drop [0] []))
 (.block 0 (.loop ir_rel_row_eachl1)))
 (.seq (.seq (.reg [⟨.mv (.s 2), none⟩,
   ⟨.mv (.r 0), none⟩] [] [] [(1, 1, none)])
 (.drop [2, 5, 6, 7, 8] [(false, 0)]))
 (.ret))))⟩
/-- 42: (*undertow/rel.Rel).is -/
def h42 : Vm.Hint := ⟨[0, 1, 4], [], [], [[0], [0, 0, 0, 0, 0, 0, 0, 0, 0]], [([2], []), ([0, 1], [])], []⟩
def ir_rel_Rel_is : Vm.Fn := ⟨[0, 1, 4], 0, 0, [.slot 2],
 .seq (.seq (.reg [⟨.mv (.c (.bool false)), none⟩] [] [] [(2, 0, none)])
 (.drop [2] []))
 (.seq (.seq (.reg [⟨.mv (.s 1), none⟩,
   ⟨.bin .geq (.r 0) (.c (.int .i64 0)), none⟩,
   ⟨.mv (.r 1), none⟩,
   ⟨.mv (.s 1), some (2, true)⟩,
   ⟨.mv (.s 0), some (2, true)⟩,
   ⟨.call .val n_rel_Rel_Len [(.r 4)], some (2, true)⟩,
   ⟨.bin .lss (.r 3) (.r 5), some (2, true)⟩,
   ⟨.pick (.r 2) (.r 6) (.c (.bool false)), none⟩,
   ⟨.mv (.r 7), none⟩] [] [] [(2, 8, none)])
 (.drop [0, 1] []))
 (.ret))⟩
/-- 43: (undertow/rel.row).has -/
def h43 : Vm.Hint := ⟨[0, 1, 4], [], [], [[0], [0, 0, 0, 0, 0, 0, 0, 0, 0, 0, 0]], [([2], []), ([0, 1], [])], []⟩
def ir_rel_row_has : Vm.Fn := ⟨[0, 1, 4], 0, 0, [.slot 2],
 .seq (.seq (.reg [⟨.mv (.c (.bool false)), none⟩] [] [] [(2, 0, none)])
 (.drop [2] []))
 (.seq (.seq (.reg [⟨.mv (.s 0), none⟩,
   ⟨.mv (.s 1), none⟩,
   ⟨.bin .quo (.r 1) (.c (.int .i64 64)), none⟩,
   ⟨.iaS 1 (.r 0) (.r 2), none⟩,
   ⟨.load 0 false 1 (.r 3), none⟩,
   ⟨.mv (.s 1), none⟩,
   ⟨.bin .rem (.r 5) (.c (.int .i64 64)), none⟩,
   ⟨.bin .shr (.r 4) (.r 6), none⟩,
   ⟨.bin .and (.r 7) (.c (.int .u64 1)), none⟩,
   ⟨.bin .eql (.r 8) (.c (.int .u64 1)), none⟩,
   ⟨.mv (.r 9), none⟩] [] [] [(2, 10, none)])
 (.drop [0, 1] []))
 (.ret))⟩
/-- 44: undertow/undertowref05.Writes -/
def h44 : Vm.Hint := ⟨[0, 2, 3], [], [], [[0], [0, 0, 0], [0, 0, 0, 0, 0, 0, 0, 0, 0, 0, 0, 0, 0, 0, 0, 0, 0, 0, 0]], [([1], []), ([0], []), ([2], [])], []⟩
def ir_undertowref05_Writes : Vm.Fn := ⟨[0, 2, 3], 0, 0, [.slot 1],
 .seq (.seq (.reg [⟨.mv (.c (.bool false)), none⟩] [] [] [(1, 0, none)])
 (.drop [1] []))
 (.seq (.seq (.reg [⟨.mv (.s 0), none⟩,
   ⟨.call .val n_undertowref05_Sort [(.r 0)], none⟩,
   ⟨.mv (.r 1), none⟩] [] [] [(2, 2, none)])
 (.drop [0] []))
 (.seq (.seq (.reg [⟨.mv (.s 2), none⟩,
   ⟨.bin .neq (.r 0) (.c (.int .i64 0)), none⟩,
   ⟨.mv (.r 1), none⟩,
   ⟨.mv (.s 2), some (2, true)⟩,
   ⟨.bin .neq (.r 3) (.c (.int .i64 3)), some (2, true)⟩,
   ⟨.pick (.r 2) (.r 4) (.c (.bool false)), none⟩,
   ⟨.mv (.r 5), none⟩,
   ⟨.mv (.s 2), some (6, true)⟩,
   ⟨.bin .neq (.r 7) (.c (.int .i64 5)), some (6, true)⟩,
   ⟨.pick (.r 6) (.r 8) (.c (.bool false)), none⟩,
   ⟨.mv (.r 9), none⟩,
   ⟨.mv (.s 2), some (10, true)⟩,
   ⟨.bin .neq (.r 11) (.c (.int .i64 8)), some (10, true)⟩,
   ⟨.pick (.r 10) (.r 12) (.c (.bool false)), none⟩,
   ⟨.mv (.r 13), none⟩,
   ⟨.mv (.s 2), some (14, true)⟩,
   ⟨.bin .neq (.r 15) (.c (.int .i64 9)), some (14, true)⟩,
   ⟨.pick (.r 14) (.r 16) (.c (.bool false)), none⟩,
   ⟨.mv (.r 17), none⟩] [] [] [(1, 18, none)])
 (.drop [2] []))
 (.ret)))⟩
/-- 45: undertow/rel.New -/
def h45 : Vm.Hint := ⟨[0, 2, 3, 9, 12, 13, 14], [], [], [[0], [0, 0, 0, 0, 0, 0], [0], [0, 0, 0], [0, 0], [0], [0, 0, 0, 0, 0, 0, 0, 0, 0, 0, 1, 0, 0, 0, 0], [0, 0], [0, 0]], [([1], []), ([], []), ([0, 3], []), ([3], []), ([], []), ([], []), ([6], []), ([], []), ([0, 2, 4, 5, 6], [])], []⟩
def ir_rel_Newl0 : C :=
 .seq (.reg [⟨.bin .lss (.s 5) (.s 4), none⟩] [] [] [(6, 0, none)])
 (.seq (.cond (.s 6) (.skip)
  (.exit 0))
 (.seq (.block 1 (.seq (.reg [⟨.mv (.s 2), none⟩,
    ⟨.mv (.s 2), none⟩,
    ⟨.nilck (.r 1), none⟩,
    ⟨.off 0 (.r 2), none⟩,
    ⟨.load 0 false 1 (.r 3), none⟩,
    ⟨.mv (.s 0), none⟩,
    ⟨.bin .add (.r 5) (.c (.int .i64 64)), none⟩,
    ⟨.bin .sub (.r 6) (.c (.int .i64 1)), none⟩,
    ⟨.bin .quo (.r 7) (.c (.int .i64 64)), none⟩,
    ⟨.mksl [.int .u64 0] 8 (.r 8) (.r 8), none⟩,
    ⟨.lit 1 1 [[.nils]] [(0, (.r 9))], none⟩,
    ⟨.app 0 1 24 (.r 4) (.r 10), none⟩,
    ⟨.nilck (.r 0), none⟩,
    ⟨.off 0 (.r 12), none⟩,
    ⟨.store 0 1 (.r 13) (.r 11), none⟩] [] [(4, 9)] [])
  (.drop [6] [])))
 (.reg [⟨.bin .add (.s 5) (.c (.int .i64 1)), none⟩,
   ⟨.mv (.r 0), none⟩] [] [] [(5, 1, none)])))
def ir_rel_New : Vm.Fn := ⟨[0, 2, 3, 9, 12, 13, 14], 0, 0, [.slot 1],
 .seq (.seq (.reg [⟨.mv (.c (.nilp)), none⟩] [] [] [(1, 0, none)])
 (.drop [1] []))
 (.seq (.seq (.reg [⟨.mv (.s 0), none⟩,
   ⟨.bin .lss (.r 0) (.c (.int .i64 0)), none⟩,
   ⟨.mv (.r 1), none⟩,
   ⟨.mv (.s 0), some (2, false)⟩,
   ⟨.bin .gtr (.r 3) (.c (.int .i64 512)), some (2, false)⟩,
   ⟨.pick (.r 2) (.c (.bool true)) (.r 4), none⟩] [] [] [(3, 5, none)])
 (.cond (.s 3) (.seq (.seq (.reg [⟨.mv (.c (.nilp)), none⟩] [] [] [(1, 0, none)])
  (.drop [0, 3] []))
  (.ret))
  (.skip)))
 (.seq (.seq (.reg [⟨.build [.nils] [], none⟩,
   ⟨.hbox 1 (.r 0), none⟩,
   ⟨.mv (.r 1), none⟩] [] [] [(2, 2, none)])
 (.drop [3] []))
 (.seq (.seq (.reg [⟨.mv (.s 0), none⟩,
   ⟨.mv (.c (.int .i64 0)), none⟩] [] [] [(4, 0, none), (5, 1, none)])
 (.block 0 (.loop ir_rel_Newl0)))
 (.seq (.seq (.reg [⟨.mv (.s 2), none⟩,
   ⟨.mv (.r 0), none⟩] [] [] [(1, 1, none)])
 (.drop [0, 2, 4, 5, 6] []))
 (.ret)))))⟩
/-- 46: (*undertow/rel.Rel).Add -/
def h46 : Vm.Hint := ⟨[0, 1, 2, 6, 16], [], [], [[0], [0, 0, 0, 0, 0, 0, 0, 0, 0, 0], [0], [0, 0, 0, 0, 0, 0, 0, 0, 1], [0]], [([3], []), ([], []), ([0, 1, 2, 4], []), ([0, 1, 2, 4], []), ([], [])], []⟩
def ir_rel_Rel_Add : Vm.Fn := ⟨[0, 1, 2, 6, 16], 0, 0, [.slot 3],
 .seq (.seq (.reg [⟨.mv (.c (.bool false)), none⟩] [] [] [(3, 0, none)])
 (.drop [3] []))
 (.seq (.seq (.reg [⟨.mv (.s 0), none⟩,
   ⟨.mv (.s 1), none⟩,
   ⟨.call .val n_rel_Rel_is [(.r 0), (.r 1)], none⟩,
   ⟨.un .not (.r 2), none⟩,
   ⟨.mv (.r 3), none⟩,
   ⟨.mv (.s 0), some (4, false)⟩,
   ⟨.mv (.s 2), some (4, false)⟩,
   ⟨.call .val n_rel_Rel_is [(.r 5), (.r 6)], some (4, false)⟩,
   ⟨.un .not (.r 7), some (4, false)⟩,
   ⟨.pick (.r 4) (.c (.bool true)) (.r 8), none⟩] [] [] [(4, 9, none)])
 (.cond (.s 4) (.seq (.seq (.reg [⟨.mv (.c (.bool false)), none⟩] [] [] [(3, 0, none)])
  (.drop [0, 1, 2, 4] []))
  (.ret))
  (.skip)))
 (.seq (.seq (.reg [⟨.mv (.s 0), none⟩,
   ⟨.nilck (.r 0), none⟩,
   ⟨.off 0 (.r 1), none⟩,
   ⟨.load 0 false 1 (.r 2), none⟩,
   ⟨.mv (.s 1), none⟩,
   ⟨.iaS 1 (.r 3) (.r 4), none⟩,
   ⟨.load 0 false 1 (.r 5), none⟩,
   ⟨.mv (.s 2), none⟩,
   ⟨.call .heap n_rel_row_add [(.r 6), (.r 7)], none⟩] [] [] [])
 (.drop [0, 1, 2, 4] []))
 (.seq (.reg [⟨.mv (.c (.bool true)), none⟩] [] [] [(3, 0, none)])
 (.ret))))⟩
/-- 47: undertow/ops.Size -/
def h47 : Vm.Hint := ⟨[0, 2, 3, 4, 8, 12, 18, 23, 27], [], [], [[0], [0], [0, 0], [0, 0], [0, 0], [0], [0, 0], [0, 0], [0, 0], [0], [0, 0], [0, 0], [0, 0], [0, 0], [0, 0], [0], [0, 0], [0, 0], [0, 0], [0, 0], [0], [0, 0, 0, 0], [0], [0, 0, 0], [0], [0]], [], []⟩
def ir_ops_Size : Vm.Fn := ⟨[0, 2, 3, 4, 8, 12, 18, 23, 27], 0, 0, [.slot 1],
 .seq (.reg [⟨.mv (.c (.int .i64 0)), none⟩] [] [] [(1, 0, none)])
 (.seq (.seq (.reg [⟨.mv (.s 0), none⟩] [] [] [(2, 0, none)])
 (.block 0 (.seq (.seq (.reg [⟨.bin .eql (.s 2) (.c (.int .i64 11)), none⟩,
    ⟨.mv (.r 0), none⟩] [] [] [(3, 1, none)])
  (.cond (.s 3) (.skip)
   (.seq (.reg [⟨.bin .eql (.s 2) (.c (.int .i64 15)), none⟩,
     ⟨.mv (.r 0), none⟩] [] [] [(3, 1, none)])
   (.cond (.s 3) (.skip)
    (.reg [⟨.bin .eql (.s 2) (.c (.int .i64 18)), none⟩,
      ⟨.mv (.r 0), none⟩] [] [] [(3, 1, none)])))))
  (.cond (.s 3) (.seq (.reg [⟨.mv (.c (.int .i64 1)), none⟩] [] [] [(1, 0, none)])
   (.ret))
   (.seq (.seq (.reg [⟨.bin .eql (.s 2) (.c (.int .i64 12)), none⟩,
     ⟨.mv (.r 0), none⟩] [] [] [(4, 1, none)])
   (.cond (.s 4) (.skip)
    (.seq (.reg [⟨.bin .eql (.s 2) (.c (.int .i64 16)), none⟩,
      ⟨.mv (.r 0), none⟩] [] [] [(4, 1, none)])
    (.cond (.s 4) (.skip)
     (.reg [⟨.bin .eql (.s 2) (.c (.int .i64 19)), none⟩,
       ⟨.mv (.r 0), none⟩] [] [] [(4, 1, none)])))))
   (.cond (.s 4) (.seq (.reg [⟨.mv (.c (.int .i64 2)), none⟩] [] [] [(1, 0, none)])
    (.ret))
    (.seq (.seq (.reg [⟨.bin .eql (.s 2) (.c (.int .i64 13)), none⟩,
      ⟨.mv (.r 0), none⟩] [] [] [(5, 1, none)])
    (.cond (.s 5) (.skip)
     (.seq (.reg [⟨.bin .eql (.s 2) (.c (.int .i64 17)), none⟩,
       ⟨.mv (.r 0), none⟩] [] [] [(5, 1, none)])
     (.cond (.s 5) (.skip)
      (.seq (.reg [⟨.bin .eql (.s 2) (.c (.int .i64 20)), none⟩,
        ⟨.mv (.r 0), none⟩] [] [] [(5, 1, none)])
      (.cond (.s 5) (.skip)
       (.seq (.reg [⟨.bin .eql (.s 2) (.c (.int .i64 54)), none⟩,
         ⟨.mv (.r 0), none⟩] [] [] [(5, 1, none)])
       (.cond (.s 5) (.skip)
        (.reg [⟨.bin .eql (.s 2) (.c (.int .i64 56)), none⟩,
          ⟨.mv (.r 0), none⟩] [] [] [(5, 1, none)])))))))))
    (.cond (.s 5) (.seq (.reg [⟨.mv (.c (.int .i64 4)), none⟩] [] [] [(1, 0, none)])
     (.ret))
     (.seq (.seq (.reg [⟨.bin .eql (.s 2) (.c (.int .i64 14)), none⟩,
       ⟨.mv (.r 0), none⟩] [] [] [(6, 1, none)])
     (.cond (.s 6) (.skip)
      (.seq (.reg [⟨.bin .eql (.s 2) (.c (.int .i64 21)), none⟩,
        ⟨.mv (.r 0), none⟩] [] [] [(6, 1, none)])
      (.cond (.s 6) (.skip)
       (.seq (.reg [⟨.bin .eql (.s 2) (.c (.int .i64 55)), none⟩,
         ⟨.mv (.r 0), none⟩] [] [] [(6, 1, none)])
       (.cond (.s 6) (.skip)
        (.reg [⟨.bin .eql (.s 2) (.c (.int .i64 57)), none⟩,
          ⟨.mv (.r 0), none⟩] [] [] [(6, 1, none)])))))))
     (.cond (.s 6) (.seq (.reg [⟨.mv (.c (.int .i64 8)), none⟩] [] [] [(1, 0, none)])
      (.ret))
      (.skip)))))))))))
 (.seq (.block 1 (.seq (.reg [⟨.mv (.s 0), none⟩,
    ⟨.call .val n_ops_Sort [(.r 0)], none⟩,
    ⟨.bin .neq (.r 1) (.c (.int .i64 12)), none⟩,
    ⟨.mv (.r 2), none⟩] [] [] [(7, 3, none)])
  (.cond (.s 7) (.seq (.reg [⟨.mv (.c (.int .i64 0)), none⟩] [] [] [(1, 0, none)])
   (.ret))
   (.seq (.reg [⟨.mv (.s 0), none⟩,
     ⟨.bin .leq (.r 0) (.c (.int .i64 66)), none⟩,
     ⟨.mv (.r 1), none⟩] [] [] [(8, 2, none)])
   (.cond (.s 8) (.seq (.reg [⟨.mv (.c (.int .i64 4)), none⟩] [] [] [(1, 0, none)])
    (.ret))
    (.skip))))))
 (.seq (.reg [⟨.mv (.c (.int .i64 8)), none⟩] [] [] [(1, 0, none)])
 (.ret))))⟩
/-- 48: undertow/ops.register -/
def h48 : Vm.Hint := ⟨[0, 2, 8], [], [], [[0], [0, 0, 0, 0, 0, 0], [0], [0, 0]], [([1], []), ([], []), ([0, 2], []), ([0, 2], [])], []⟩
def ir_ops_register : Vm.Fn := ⟨[0, 2, 8], 0, 0, [.slot 1],
 .seq (.seq (.reg [⟨.mv (.c (.int .i64 0)), none⟩] [] [] [(1, 0, none)])
 (.drop [1] []))
 (.seq (.seq (.reg [⟨.mv (.s 0), none⟩,
   ⟨.bin .lss (.r 0) (.c (.int .i64 0)), none⟩,
   ⟨.mv (.r 1), none⟩,
   ⟨.mv (.s 0), some (2, false)⟩,
   ⟨.bin .gtr (.r 3) (.c (.int .i64 31)), some (2, false)⟩,
   ⟨.pick (.r 2) (.c (.bool true)) (.r 4), none⟩] [] [] [(2, 5, none)])
 (.cond (.s 2) (.seq (.seq (.reg [⟨.mv (.c (.int .i64 0)), none⟩] [] [] [(1, 0, none)])
  (.drop [0, 2] []))
  (.ret))
  (.skip)))
 (.seq (.seq (.reg [⟨.mv (.s 0), none⟩,
   ⟨.mv (.r 0), none⟩] [] [] [(1, 1, none)])
 (.drop [0, 2] []))
 (.ret)))⟩
/-- 49: undertow/undertowref05.Name -/
def h49 : Vm.Hint := ⟨[0, 2, 3, 12], [], [], [[0], [0, 0], [0, 0, 0, 0, 0, 0, 0, 0], [0], [0, 0, 0, 0, 0, 0]], [], []⟩
def ir_undertowref05_Name : Vm.Fn := ⟨[0, 2, 3, 12], 0, 0, [.slot 1],
 .seq (.reg [⟨.mv (.c (.str [])), none⟩] [] [] [(1, 0, none)])
 (.seq (.reg [⟨.call .val n_undertowref05_Names [], none⟩,
   ⟨.mv (.r 0), none⟩] [] [] [(2, 1, none)])
 (.seq (.seq (.reg [⟨.mv (.s 0), none⟩,
   ⟨.bin .lss (.r 0) (.c (.int .i64 1)), none⟩,
   ⟨.mv (.r 1), none⟩,
   ⟨.mv (.s 0), some (2, false)⟩,
   ⟨.mv (.s 2), some (2, false)⟩,
   ⟨.len 1 (.r 4), some (2, false)⟩,
   ⟨.bin .gtr (.r 3) (.r 5), some (2, false)⟩,
   ⟨.pick (.r 2) (.c (.bool true)) (.r 6), none⟩] [] [] [(3, 7, none)])
 (.cond (.s 3) (.seq (.reg [⟨.mv (.c (.str [])), none⟩] [] [] [(1, 0, none)])
  (.ret))
  (.skip)))
 (.seq (.reg [⟨.mv (.s 2), none⟩,
   ⟨.mv (.s 0), none⟩,
   ⟨.bin .sub (.r 1) (.c (.int .i64 1)), none⟩,
   ⟨.iaS 1 (.r 0) (.r 2), none⟩,
   ⟨.load 0 false 1 (.r 3), none⟩,
   ⟨.mv (.r 4), none⟩] [] [] [(1, 5, none)])
 (.ret))))⟩
/-- 50: undertow/undertowref05.First -/
def h50 : Vm.Hint := ⟨[0, 2, 3], [], [], [[0], [0, 0, 0], [0, 0, 0, 0, 0, 0, 0, 0, 0, 0, 0, 0, 0, 0, 0, 0]], [([1], []), ([], []), ([0, 2], [])], []⟩
def ir_undertowref05_First : Vm.Fn := ⟨[0, 2, 3], 0, 0, [.slot 1],
 .seq (.seq (.reg [⟨.mv (.c (.bool false)), none⟩] [] [] [(1, 0, none)])
 (.drop [1] []))
 (.seq (.reg [⟨.mv (.s 0), none⟩,
   ⟨.call .val n_undertowref05_Sort [(.r 0)], none⟩,
   ⟨.mv (.r 1), none⟩] [] [] [(2, 2, none)])
 (.seq (.seq (.reg [⟨.mv (.s 0), none⟩,
   ⟨.call .val n_undertowref05_Name [(.r 0)], none⟩,
   ⟨.bin .eql (.r 1) (.c (.str [106, 97, 108, 114])), none⟩,
   ⟨.mv (.r 2), none⟩,
   ⟨.mv (.s 2), some (3, false)⟩,
   ⟨.bin .geq (.r 4) (.c (.int .i64 3)), some (3, false)⟩,
   ⟨.mv (.r 5), some (3, false)⟩,
   ⟨.mv (.s 2), some (6, true)⟩,
   ⟨.bin .leq (.r 7) (.c (.int .i64 7)), some (6, true)⟩,
   ⟨.pick (.r 6) (.r 8) (.c (.bool false)), some (3, false)⟩,
   ⟨.pick (.r 3) (.c (.bool true)) (.r 9), none⟩,
   ⟨.mv (.r 10), none⟩,
   ⟨.mv (.s 2), some (11, false)⟩,
   ⟨.bin .geq (.r 12) (.c (.int .i64 10)), some (11, false)⟩,
   ⟨.pick (.r 11) (.c (.bool true)) (.r 13), none⟩,
   ⟨.mv (.r 14), none⟩] [] [] [(1, 15, none)])
 (.drop [0, 2] []))
 (.ret)))⟩
/-- 51: undertow/undertowref05.Second -/
def h51 : Vm.Hint := ⟨[0, 2, 3], [], [], [[0], [0, 0, 0], [0, 0, 0, 0, 0, 0, 0, 0, 0, 0, 0, 0, 0, 0, 0]], [([1], []), ([0], []), ([2], [])], []⟩
def ir_undertowref05_Second : Vm.Fn := ⟨[0, 2, 3], 0, 0, [.slot 1],
 .seq (.seq (.reg [⟨.mv (.c (.bool false)), none⟩] [] [] [(1, 0, none)])
 (.drop [1] []))
 (.seq (.seq (.reg [⟨.mv (.s 0), none⟩,
   ⟨.call .val n_undertowref05_Sort [(.r 0)], none⟩,
   ⟨.mv (.r 1), none⟩] [] [] [(2, 2, none)])
 (.drop [0] []))
 (.seq (.seq (.reg [⟨.mv (.s 2), none⟩,
   ⟨.bin .eql (.r 0) (.c (.int .i64 3)), none⟩,
   ⟨.mv (.r 1), none⟩,
   ⟨.mv (.s 2), some (2, false)⟩,
   ⟨.bin .eql (.r 3) (.c (.int .i64 5)), some (2, false)⟩,
   ⟨.pick (.r 2) (.c (.bool true)) (.r 4), none⟩,
   ⟨.mv (.r 5), none⟩,
   ⟨.mv (.s 2), some (6, false)⟩,
   ⟨.bin .eql (.r 7) (.c (.int .i64 7)), some (6, false)⟩,
   ⟨.pick (.r 6) (.c (.bool true)) (.r 8), none⟩,
   ⟨.mv (.r 9), none⟩,
   ⟨.mv (.s 2), some (10, false)⟩,
   ⟨.bin .geq (.r 11) (.c (.int .i64 11)), some (10, false)⟩,
   ⟨.pick (.r 10) (.c (.bool true)) (.r 12), none⟩,
   ⟨.mv (.r 13), none⟩] [] [] [(1, 14, none)])
 (.drop [2] []))
 (.ret)))⟩
/-- 52: undertow/ops.Target -/
def h52 : Vm.Hint := ⟨[0, 1, 2, 5, 6], [1], [], [[1, 0], [0, 0, 0], [0, 0], [0, 0], [0, 0], [0, 0], [0, 0], [0], [0, 0, 0, 0]], [([0, 2], []), ([], []), ([], []), ([], []), ([], []), ([], []), ([3], []), ([1, 3, 4], [(true, 0)]), ([1, 3, 4], [(true, 0)])], []⟩
def ir_ops_Target : Vm.Fn := ⟨[0, 1, 2, 5, 6], 1, 0, [.slot 2],
 .seq (.seq (.reg [⟨.lbox 0 9 (.s 0), none⟩,
   ⟨.mv (.c (.int .i64 0)), none⟩] [(true, 0)] [] [(1, 0, some 1), (2, 1, none)])
 (.drop [0, 2] []))
 (.seq (.seq (.reg [⟨.off 0 (.s 1), none⟩,
   ⟨.load 0 false 1 (.r 0), none⟩,
   ⟨.call .val n_ops_Sort [(.r 1)], none⟩] [] [] [(3, 2, none)])
 (.block 0 (.seq (.seq (.reg [⟨.bin .eql (.s 3) (.c (.int .i64 0)), none⟩,
    ⟨.mv (.r 0), none⟩] [] [] [(4, 1, none)])
  (.cond (.s 4) (.skip)
   (.seq (.reg [⟨.bin .eql (.s 3) (.c (.int .i64 3)), none⟩,
     ⟨.mv (.r 0), none⟩] [] [] [(4, 1, none)])
   (.cond (.s 4) (.skip)
    (.seq (.reg [⟨.bin .eql (.s 3) (.c (.int .i64 5)), none⟩,
      ⟨.mv (.r 0), none⟩] [] [] [(4, 1, none)])
    (.cond (.s 4) (.skip)
     (.seq (.reg [⟨.bin .eql (.s 3) (.c (.int .i64 8)), none⟩,
       ⟨.mv (.r 0), none⟩] [] [] [(4, 1, none)])
     (.cond (.s 4) (.skip)
      (.seq (.reg [⟨.bin .eql (.s 3) (.c (.int .i64 9)), none⟩,
        ⟨.mv (.r 0), none⟩] [] [] [(4, 1, none)])
      (.drop [3] []))))))))))
  (.cond (.s 4) (.seq (.seq (.reg [⟨.mv (.c (.int .i64 0)), none⟩] [] [] [(2, 0, none)])
   (.drop [1, 3, 4] [(true, 0)]))
   (.ret))
   (.skip)))))
 (.seq (.seq (.reg [⟨.off 1 (.s 1), none⟩,
   ⟨.load 0 false 1 (.r 0), none⟩,
   ⟨.call .val n_ops_register [(.r 1)], none⟩,
   ⟨.mv (.r 2), none⟩] [] [] [(2, 3, none)])
 (.drop [1, 3, 4] [(true, 0)]))
 (.ret)))⟩
/-- 53: undertow/deps.gives -/
def h53 : Vm.Hint := ⟨[0, 1, 2, 5, 6], [1], [], [[1, 0], [0, 0, 0], [0, 0], [0, 0], [0, 0], [0, 0], [0], [0]], [([0, 2], []), ([1], [(true, 0)]), ([], []), ([], []), ([], []), ([3], []), ([3, 4], []), ([3, 4], [])], []⟩
def ir_deps_gives : Vm.Fn := ⟨[0, 1, 2, 5, 6], 1, 0, [.slot 2],
 .seq (.seq (.reg [⟨.lbox 0 9 (.s 0), none⟩,
   ⟨.mv (.c (.bool false)), none⟩] [(true, 0)] [] [(1, 0, some 1), (2, 1, none)])
 (.drop [0, 2] []))
 (.seq (.seq (.seq (.reg [⟨.off 0 (.s 1), none⟩,
   ⟨.load 0 false 1 (.r 0), none⟩,
   ⟨.call .val n_ops_Sort [(.r 1)], none⟩] [] [] [(3, 2, none)])
 (.drop [1] [(true, 0)]))
 (.block 0 (.seq (.seq (.reg [⟨.bin .eql (.s 3) (.c (.int .i64 4)), none⟩,
    ⟨.mv (.r 0), none⟩] [] [] [(4, 1, none)])
  (.cond (.s 4) (.skip)
   (.seq (.reg [⟨.bin .eql (.s 3) (.c (.int .i64 10)), none⟩,
     ⟨.mv (.r 0), none⟩] [] [] [(4, 1, none)])
   (.cond (.s 4) (.skip)
    (.seq (.reg [⟨.bin .eql (.s 3) (.c (.int .i64 11)), none⟩,
      ⟨.mv (.r 0), none⟩] [] [] [(4, 1, none)])
    (.cond (.s 4) (.skip)
     (.seq (.reg [⟨.bin .eql (.s 3) (.c (.int .i64 12)), none⟩,
       ⟨.mv (.r 0), none⟩] [] [] [(4, 1, none)])
     (.drop [3] []))))))))
  (.cond (.s 4) (.seq (.seq (.reg [⟨.mv (.c (.bool true)), none⟩] [] [] [(2, 0, none)])
   (.drop [3, 4] []))
   (.ret))
   (.skip)))))
 (.seq (.seq (.reg [⟨.mv (.c (.bool false)), none⟩] [] [] [(2, 0, none)])
 (.drop [3, 4] []))
 (.ret)))⟩
/-- 54: math/bits.TrailingZeros64 -/
def h54 : Vm.Hint := ⟨[0, 2, 4], [], [], [[0], [0, 0], [0], [0, 0, 0, 0, 0, 0, 0, 0, 0, 0]], [([1], []), ([], []), ([0, 2], []), ([0, 2], [])], []⟩
def ir_math_bits_TrailingZeros64 : Vm.Fn := ⟨[0, 2, 4], 0, 0, [.slot 1],
 .seq (.seq (.reg [⟨.mv (.c (.int .i64 0)), none⟩] [] [] [(1, 0, none)])
 (.drop [1] []))
 (.seq (.seq (.reg [⟨.mv (.s 0), none⟩,
   ⟨.bin .eql (.r 0) (.c (.int .u64 0)), none⟩] [] [] [(2, 1, none)])
 (.cond (.s 2) (.seq (.seq (.reg [⟨.mv (.c (.int .i64 64)), none⟩] [] [] [(1, 0, none)])
  (.drop [0, 2] []))
  (.ret))
  (.skip)))
 (.seq (.seq (.reg [⟨.mv (.s 0), none⟩,
   ⟨.mv (.s 0), none⟩,
   ⟨.un .neg (.r 1), none⟩,
   ⟨.bin .and (.r 0) (.r 2), none⟩,
   ⟨.bin .mul (.r 3) (.c (.int .u64 285870213051353865)), none⟩,
   ⟨.bin .shr (.r 4) (.c (.int .u64 58)), none⟩,
   ⟨.iaA 64 1 (.c (.ip false glV 0)) (.r 5), none⟩,
   ⟨.load 0 false 1 (.r 6), none⟩,
   ⟨.i2i .i64 (.r 7), none⟩,
   ⟨.mv (.r 8), none⟩] [] [] [(1, 9, none)])
 (.drop [0, 2] []))
 (.ret)))⟩
/-- 55: (undertow/rel.row).add -/
def h55 : Vm.Hint := ⟨[0, 1], [], [], [[0, 0, 0, 0, 0, 0, 0, 0, 0, 0, 0]], [([0, 1], [])], []⟩
def ir_rel_row_add : Vm.Fn := ⟨[0, 1], 0, 0, [],
 .seq (.reg [⟨.mv (.s 0), none⟩,
   ⟨.mv (.s 1), none⟩,
   ⟨.bin .quo (.r 1) (.c (.int .i64 64)), none⟩,
   ⟨.iaS 1 (.r 0) (.r 2), none⟩,
   ⟨.load 0 false 1 (.r 3), none⟩,
   ⟨.mv (.s 1), none⟩,
   ⟨.bin .rem (.r 5) (.c (.int .i64 64)), none⟩,
   ⟨.bin .shl (.c (.int .u64 1)) (.r 6), none⟩,
   ⟨.bin .or (.r 4) (.r 7), none⟩,
   ⟨.iaS 1 (.r 0) (.r 2), none⟩,
   ⟨.store 0 1 (.r 9) (.r 8), none⟩] [] [] [])
 (.drop [0, 1] [])⟩
/-- 56: undertow/undertowref05.Names -/
def h56 : Vm.Hint := ⟨[0], [], [], [[0], [0, 0]], [], []⟩
def ir_undertowref05_Names : Vm.Fn := ⟨[0], 0, 0, [.slot 0],
 .seq (.reg [⟨.mv (.c (.nils)), none⟩] [] [] [(0, 0, none)])
 (.seq (.reg [⟨.lit 0 1 [[.str []], [.str []], [.str []], [.str []], [.str []], [.str []], [.str []], [.str []], [.str []], [.str []], [.str []], [.str []], [.str []], [.str []], [.str []], [.str []], [.str []], [.str []], [.str []], [.str []], [.str []], [.str []], [.str []], [.str []], [.str []], [.str []], [.str []], [.str []], [.str []], [.str []], [.str []], [.str []], [.str []], [.str []], [.str []], [.str []], [.str []], [.str []], [.str []], [.str []], [.str []], [.str []], [.str []], [.str []], [.str []], [.str []], [.str []], [.str []], [.str []], [.str []], [.str []], [.str []], [.str []], [.str []], [.str []], [.str []], [.str []], [.str []], [.str []], [.str []], [.str []], [.str []], [.str []], [.str []], [.str []], [.str []], [.str []], [.str []], [.str []], [.str []], [.str []], [.str []], [.str []], [.str []], [.str []]] [(0, (.c (.str [108, 117, 105]))), (1, (.c (.str [97, 117, 105, 112, 99]))), (2, (.c (.str [106, 97, 108]))), (3, (.c (.str [106, 97, 108, 114]))), (4, (.c (.str [98, 101, 113]))), (5, (.c (.str [98, 110, 101]))), (6, (.c (.str [98, 108, 116]))), (7, (.c (.str [98, 103, 101]))), (8, (.c (.str [98, 108, 116, 117]))), (9, (.c (.str [98, 103, 101, 117]))), (10, (.c (.str [108, 98]))), (11, (.c (.str [108, 104]))), (12, (.c (.str [108, 119]))), (13, (.c (.str [108, 100]))), (14, (.c (.str [108, 98, 117]))), (15, (.c (.str [108, 104, 117]))), (16, (.c (.str [108, 119, 117]))), (17, (.c (.str [115, 98]))), (18, (.c (.str [115, 104]))), (19, (.c (.str [115, 119]))), (20, (.c (.str [115, 100]))), (21, (.c (.str [97, 100, 100, 105]))), (22, (.c (.str [115, 108, 116, 105]))), (23, (.c (.str [115, 108, 116, 105, 117]))), (24, (.c (.str [120, 111, 114, 105]))), (25, (.c (.str [111, 114, 105]))), (26, (.c (.str [97, 110, 100, 105]))), (27, (.c (.str [115, 108, 108, 105]))), (28, (.c (.str [115, 114, 108, 105]))), (29, (.c (.str [115, 114, 97, 105]))), (30, (.c (.str [97, 100, 100, 105, 119]))), (31, (.c (.str [115, 108, 108, 105, 119]))), (32, (.c (.str [115, 114, 108, 105, 119]))), (33, (.c (.str [115, 114, 97, 105, 119]))), (34, (.c (.str [97, 100, 100]))), (35, (.c (.str [115, 117, 98]))), (36, (.c (.str [115, 108, 108]))), (37, (.c (.str [115, 108, 116]))), (38, (.c (.str [115, 108, 116, 117]))), (39, (.c (.str [120, 111, 114]))), (40, (.c (.str [115, 114, 108]))), (41, (.c (.str [115, 114, 97]))), (42, (.c (.str [111, 114]))), (43, (.c (.str [97, 110, 100]))), (44, (.c (.str [97, 100, 100, 119]))), (45, (.c (.str [115, 117, 98, 119]))), (46, (.c (.str [115, 108, 108, 119]))), (47, (.c (.str [115, 114, 108, 119]))), (48, (.c (.str [115, 114, 97, 119]))), (49, (.c (.str [102, 101, 110, 99, 101]))), (50, (.c (.str [102, 101, 110, 99, 101, 46, 116, 115, 111]))), (51, (.c (.str [101, 99, 97, 108, 108]))), (52, (.c (.str [101, 98, 114, 101, 97, 107]))), (53, (.c (.str [108, 114, 46, 119]))), (54, (.c (.str [108, 114, 46, 100]))), (55, (.c (.str [115, 99, 46, 119]))), (56, (.c (.str [115, 99, 46, 100]))), (57, (.c (.str [97, 109, 111, 115, 119, 97, 112, 46, 119]))), (58, (.c (.str [97, 109, 111, 97, 100, 100, 46, 119]))), (59, (.c (.str [97, 109, 111, 120, 111, 114, 46, 119]))), (60, (.c (.str [97, 109, 111, 97, 110, 100, 46, 119]))), (61, (.c (.str [97, 109, 111, 111, 114, 46, 119]))), (62, (.c (.str [97, 109, 111, 109, 105, 110, 46, 119]))), (63, (.c (.str [97, 109, 111, 109, 97, 120, 46, 119]))), (64, (.c (.str [97, 109, 111, 109, 105, 110, 117, 46, 119]))), (65, (.c (.str [97, 109, 111, 109, 97, 120, 117, 46, 119]))), (66, (.c (.str [97, 109, 111, 115, 119, 97, 112, 46, 100]))), (67, (.c (.str [97, 109, 111, 97, 100, 100, 46, 100]))), (68, (.c (.str [97, 109, 111, 120, 111, 114, 46, 100]))), (69, (.c (.str [97, 109, 111, 97, 110, 100, 46, 100]))), (70, (.c (.str [97, 109, 111, 111, 114, 46, 100]))), (71, (.c (.str [97, 109, 111, 109, 105, 110, 46, 100]))), (72, (.c (.str [97, 109, 111, 109, 97, 120, 46, 100]))), (73, (.c (.str [97, 109, 111, 109, 105, 110, 117, 46, 100]))), (74, (.c (.str [97, 109, 111, 109, 97, 120, 117, 46, 100])))], none⟩,
   ⟨.mv (.r 0), none⟩] [] [] [(0, 1, none)])
 (.ret))⟩
def hints (f : Nat) : Option Vm.Hint := if f < 30 then (if f < 16 then (if f < 9 then (if f < 6 then (if f < 4 then (if f = 3 then some h3 else none) else (if f < 5 then (if f = 4 then some h4 else none) else (if f = 5 then some h5 else none))) else (if f < 7 then (if f = 6 then some h6 else none) else (if f < 8 then (if f = 7 then some h7 else none) else (if f = 8 then some h8 else none)))) else (if f < 12 then (if f < 10 then (if f = 9 then some h9 else none) else (if f < 11 then (if f = 10 then some h10 else none) else (if f = 11 then some h11 else none))) else (if f < 14 then (if f < 13 then (if f = 12 then some h12 else none) else (if f = 13 then some h13 else none)) else (if f < 15 then (if f = 14 then some h14 else none) else (if f = 15 then some h15 else none))))) else (if f < 23 then (if f < 19 then (if f < 17 then (if f = 16 then some h16 else none) else (if f < 18 then (if f = 17 then some h17 else none) else (if f = 18 then some h18 else none))) else (if f < 21 then (if f < 20 then (if f = 19 then some h19 else none) else (if f = 20 then some h20 else none)) else (if f < 22 then (if f = 21 then some h21 else none) else (if f = 22 then some h22 else none)))) else (if f < 26 then (if f < 24 then (if f = 23 then some h23 else none) else (if f < 25 then (if f = 24 then some h24 else none) else (if f = 25 then some h25 else none))) else (if f < 28 then (if f < 27 then (if f = 26 then some h26 else none) else (if f = 27 then some h27 else none)) else (if f < 29 then (if f = 28 then some h28 else none) else (if f = 29 then some h29 else none)))))) else (if f < 43 then (if f < 36 then (if f < 33 then (if f < 31 then (if f = 30 then some h30 else none) else (if f < 32 then (if f = 31 then some h31 else none) else (if f = 32 then some h32 else none))) else (if f < 34 then (if f = 33 then some h33 else none) else (if f < 35 then (if f = 34 then some h34 else none) else (if f = 35 then some h35 else none)))) else (if f < 39 then (if f < 37 then (if f = 36 then some h36 else none) else (if f < 38 then (if f = 37 then some h37 else none) else (if f = 38 then some h38 else none))) else (if f < 41 then (if f < 40 then (if f = 39 then some h39 else none) else (if f = 40 then some h40 else none)) else (if f < 42 then (if f = 41 then some h41 else none) else (if f = 42 then some h42 else none))))) else (if f < 50 then (if f < 46 then (if f < 44 then (if f = 43 then some h43 else none) else (if f < 45 then (if f = 44 then some h44 else none) else (if f = 45 then some h45 else none))) else (if f < 48 then (if f < 47 then (if f = 46 then some h46 else none) else (if f = 47 then some h47 else none)) else (if f < 49 then (if f = 48 then some h48 else none) else (if f = 49 then some h49 else none)))) else (if f < 53 then (if f < 51 then (if f = 50 then some h50 else none) else (if f < 52 then (if f = 51 then some h51 else none) else (if f = 52 then some h52 else none))) else (if f < 55 then (if f < 54 then (if f = 53 then some h53 else none) else (if f = 54 then some h54 else none)) else (if f < 56 then (if f = 55 then some h55 else none) else (if f = 56 then some h56 else none))))))
noncomputable abbrev pg : Vm.Pg := pgOf Go.Proofs.Tryd.prog hints glT
theorem fn_undertowlaw21_DepsHang : pg.fn 3 = some ir_undertowlaw21_DepsHang := by kernel_rfl
theorem fn_undertowlaw21_DepsRoots : pg.fn 4 = some ir_undertowlaw21_DepsRoots := by kernel_rfl
theorem fn_undertowlaw21_DepsBehind : pg.fn 5 = some ir_undertowlaw21_DepsBehind := by kernel_rfl
theorem fn_undertowlaw21_DepsApart : pg.fn 6 = some ir_undertowlaw21_DepsApart := by kernel_rfl
theorem fn_undertowlaw21_alive : pg.fn 7 = some ir_undertowlaw21_alive := by kernel_rfl
theorem fn_deps_Address : pg.fn 8 = some ir_deps_Address := by kernel_rfl
theorem fn_undertowlaw21_retired : pg.fn 9 = some ir_undertowlaw21_retired := by kernel_rfl
theorem fn_deps_Course : pg.fn 10 = some ir_deps_Course := by kernel_rfl
theorem fn_deps_Data : pg.fn 11 = some ir_deps_Data := by kernel_rfl
theorem fn_undertowlaw21_same : pg.fn 12 = some ir_undertowlaw21_same := by kernel_rfl
theorem fn_undertowref21_Hang : pg.fn 13 = some ir_undertowref21_Hang := by kernel_rfl
theorem fn_undertowref21_Roots : pg.fn 14 = some ir_undertowref21_Roots := by kernel_rfl
theorem fn_undertowref02_SameInts : pg.fn 15 = some ir_undertowref02_SameInts := by kernel_rfl
theorem fn_deps_Roots : pg.fn 16 = some ir_deps_Roots := by kernel_rfl
theorem fn_rel_Rel_Pairs : pg.fn 17 = some ir_rel_Rel_Pairs := by kernel_rfl
theorem fn_undertowref05_Sort : pg.fn 18 = some ir_undertowref05_Sort := by kernel_rfl
theorem fn_rel_Rel_Has : pg.fn 19 = some ir_rel_Rel_Has := by kernel_rfl
theorem fn_undertowref05_Target : pg.fn 20 = some ir_undertowref05_Target := by kernel_rfl
theorem fn_rel_Rel_Len : pg.fn 21 = some ir_rel_Rel_Len := by kernel_rfl
theorem fn_deps_along : pg.fn 22 = some ir_deps_along := by kernel_rfl
theorem fn_deps_Address_1 : pg.fn 23 = some ir_deps_Address_1 := by kernel_rfl
theorem fn_ops_Memory : pg.fn 24 = some ir_ops_Memory := by kernel_rfl
theorem fn_deps_roots_of : pg.fn 25 = some ir_deps_roots_of := by kernel_rfl
theorem fn_deps_first : pg.fn 26 = some ir_deps_first := by kernel_rfl
theorem fn_deps_Course_1 : pg.fn 27 = some ir_deps_Course_1 := by kernel_rfl
theorem fn_ops_Sort : pg.fn 28 = some ir_ops_Sort := by kernel_rfl
theorem fn_deps_set_join : pg.fn 29 = some ir_deps_set_join := by kernel_rfl
theorem fn_ops_Sources : pg.fn 30 = some ir_ops_Sources := by kernel_rfl
theorem fn_deps_Data_1 : pg.fn 31 = some ir_deps_Data_1 := by kernel_rfl
theorem fn_ops_Stores : pg.fn 32 = some ir_ops_Stores := by kernel_rfl
theorem fn_deps_second : pg.fn 33 = some ir_deps_second := by kernel_rfl
theorem fn_undertowref19_New : pg.fn 34 = some ir_undertowref19_New := by kernel_rfl
theorem fn_undertowref05_Register : pg.fn 35 = some ir_undertowref05_Register := by kernel_rfl
theorem fn_undertowref05_Size : pg.fn 36 = some ir_undertowref05_Size := by kernel_rfl
theorem fn_undertowref05_Sources : pg.fn 37 = some ir_undertowref05_Sources := by kernel_rfl
theorem fn_undertowref21_Into : pg.fn 38 = some ir_undertowref21_Into := by kernel_rfl
theorem fn_deps_roots_behind : pg.fn 39 = some ir_deps_roots_behind := by kernel_rfl
theorem fn_deps_set_each : pg.fn 40 = some ir_deps_set_each := by kernel_rfl
theorem fn_rel_row_each : pg.fn 41 = some ir_rel_row_each := by kernel_rfl
theorem fn_rel_Rel_is : pg.fn 42 = some ir_rel_Rel_is := by kernel_rfl
theorem fn_rel_row_has : pg.fn 43 = some ir_rel_row_has := by kernel_rfl
theorem fn_undertowref05_Writes : pg.fn 44 = some ir_undertowref05_Writes := by kernel_rfl
theorem fn_rel_New : pg.fn 45 = some ir_rel_New := by kernel_rfl
theorem fn_rel_Rel_Add : pg.fn 46 = some ir_rel_Rel_Add := by kernel_rfl
theorem fn_ops_Size : pg.fn 47 = some ir_ops_Size := by kernel_rfl
theorem fn_ops_register : pg.fn 48 = some ir_ops_register := by kernel_rfl
theorem fn_undertowref05_Name : pg.fn 49 = some ir_undertowref05_Name := by kernel_rfl
theorem fn_undertowref05_First : pg.fn 50 = some ir_undertowref05_First := by kernel_rfl
theorem fn_undertowref05_Second : pg.fn 51 = some ir_undertowref05_Second := by kernel_rfl
theorem fn_ops_Target : pg.fn 52 = some ir_ops_Target := by kernel_rfl
theorem fn_deps_gives : pg.fn 53 = some ir_deps_gives := by kernel_rfl
theorem fn_math_bits_TrailingZeros64 : pg.fn 54 = some ir_math_bits_TrailingZeros64 := by kernel_rfl
theorem fn_rel_row_add : pg.fn 55 = some ir_rel_row_add := by kernel_rfl
theorem fn_undertowref05_Names : pg.fn 56 = some ir_undertowref05_Names := by kernel_rfl
def irL : List (Nat × Vm.Fn) := [(3, ir_undertowlaw21_DepsHang), (4, ir_undertowlaw21_DepsRoots), (5, ir_undertowlaw21_DepsBehind), (6, ir_undertowlaw21_DepsApart), (7, ir_undertowlaw21_alive), (8, ir_deps_Address), (9, ir_undertowlaw21_retired), (10, ir_deps_Course), (11, ir_deps_Data), (12, ir_undertowlaw21_same), (13, ir_undertowref21_Hang), (14, ir_undertowref21_Roots), (15, ir_undertowref02_SameInts), (16, ir_deps_Roots), (17, ir_rel_Rel_Pairs), (18, ir_undertowref05_Sort), (19, ir_rel_Rel_Has), (20, ir_undertowref05_Target), (21, ir_rel_Rel_Len), (22, ir_deps_along), (23, ir_deps_Address_1), (24, ir_ops_Memory), (25, ir_deps_roots_of), (26, ir_deps_first), (27, ir_deps_Course_1), (28, ir_ops_Sort), (29, ir_deps_set_join), (30, ir_ops_Sources), (31, ir_deps_Data_1), (32, ir_ops_Stores), (33, ir_deps_second), (34, ir_undertowref19_New), (35, ir_undertowref05_Register), (36, ir_undertowref05_Size), (37, ir_undertowref05_Sources), (38, ir_undertowref21_Into), (39, ir_deps_roots_behind), (40, ir_deps_set_each), (41, ir_rel_row_each), (42, ir_rel_Rel_is), (43, ir_rel_row_has), (44, ir_undertowref05_Writes), (45, ir_rel_New), (46, ir_rel_Rel_Add), (47, ir_ops_Size), (48, ir_ops_register), (49, ir_undertowref05_Name), (50, ir_undertowref05_First), (51, ir_undertowref05_Second), (52, ir_ops_Target), (53, ir_deps_gives), (54, ir_math_bits_TrailingZeros64), (55, ir_rel_row_add), (56, ir_undertowref05_Names)]
theorem irL_ok : ∀ q ∈ irL, pg.fn q.1 = some q.2 := by
  simp only [irL, List.forall_mem_cons]
  exact ⟨fn_undertowlaw21_DepsHang, fn_undertowlaw21_DepsRoots, fn_undertowlaw21_DepsBehind, fn_undertowlaw21_DepsApart, fn_undertowlaw21_alive, fn_deps_Address, fn_undertowlaw21_retired, fn_deps_Course, fn_deps_Data, fn_undertowlaw21_same, fn_undertowref21_Hang, fn_undertowref21_Roots, fn_undertowref02_SameInts, fn_deps_Roots, fn_rel_Rel_Pairs, fn_undertowref05_Sort, fn_rel_Rel_Has, fn_undertowref05_Target, fn_rel_Rel_Len, fn_deps_along, fn_deps_Address_1, fn_ops_Memory, fn_deps_roots_of, fn_deps_first, fn_deps_Course_1, fn_ops_Sort, fn_deps_set_join, fn_ops_Sources, fn_deps_Data_1, fn_ops_Stores, fn_deps_second, fn_undertowref19_New, fn_undertowref05_Register, fn_undertowref05_Size, fn_undertowref05_Sources, fn_undertowref21_Into, fn_deps_roots_behind, fn_deps_set_each, fn_rel_row_each, fn_rel_Rel_is, fn_rel_row_has, fn_undertowref05_Writes, fn_rel_New, fn_rel_Rel_Add, fn_ops_Size, fn_ops_register, fn_undertowref05_Name, fn_undertowref05_First, fn_undertowref05_Second, fn_ops_Target, fn_deps_gives, fn_math_bits_TrailingZeros64, fn_rel_row_add, fn_undertowref05_Names, by simp⟩
end Go.Proofs.YtkdgcgkmgcmaiaaDoor
