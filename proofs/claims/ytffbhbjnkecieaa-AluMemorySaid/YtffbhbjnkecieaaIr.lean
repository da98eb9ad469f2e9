/- The functions' own form, printed by a tool of this session out of the given translation. -/
import Derived.Test.YtffbhbjnkecieaaVf
import Derived.Test.YtffbhbjnkecieaaChecked
import Derived.KernelRfl
namespace Go.Proofs.Ytffbhbjnkecieaa
open Go Go.Vm
abbrev n_undertowlaw08_AluResults : Nat := 3
abbrev n_undertowlaw08_AluNext : Nat := 4
abbrev n_undertowlaw08_AluMemory : Nat := 5
abbrev n_undertowlaw08_AluPairs : Nat := 6
abbrev n_undertowlaw08_AluBack : Nat := 7
abbrev n_undertowlaw08_alive : Nat := 8
abbrev n_alu_Result : Nat := 9
abbrev n_undertowref08_Result : Nat := 10
abbrev n_alu_Taken : Nat := 11
abbrev n_undertowref08_Taken : Nat := 12
abbrev n_alu_Next : Nat := 13
abbrev n_undertowref08_Next : Nat := 14
abbrev n_alu_Address : Nat := 15
abbrev n_undertowref08_Address : Nat := 16
abbrev n_alu_Loaded : Nat := 17
abbrev n_undertowref08_Loaded : Nat := 18
abbrev n_alu_Stored : Nat := 19
abbrev n_undertowref08_Stored : Nat := 20
abbrev n_undertowref01_Zext : Nat := 21
abbrev n_undertowref05_Size : Nat := 22
abbrev n_alu_Where : Nat := 23
abbrev n_ops_Sort : Nat := 24
abbrev n_alu_pair : Nat := 25
abbrev n_alu_pairs : Nat := 26
abbrev n_undertowref05_Sort : Nat := 27
abbrev n_undertowref05_Name : Nat := 28
abbrev n_undertowref08_Bool : Nat := 29
abbrev n_undertowref08_Low : Nat := 30
abbrev n_undertowref08_Left : Nat := 31
abbrev n_undertowref08_Right : Nat := 32
abbrev n_undertowref01_Sext : Nat := 33
abbrev n_ops_Size : Nat := 34
abbrev n_word_Zext : Nat := 35
abbrev n_word_Sext : Nat := 36
abbrev n_alu_atomic : Nat := 37
abbrev n_alu_one : Nat := 38
abbrev n_alu_narrow : Nat := 39
abbrev n_undertowref05_Names : Nat := 40
/-- 3: undertow/undertowlaw08.AluResults -/
def h3 : Vm.Hint := ⟨[0, 1, 2, 3, 4, 8, 9, 10, 12, 14, 19, 32], [4, 10], [], [[1, 0], [0, 0], [0], [0], [0, 0], [0, 0, 0], [0, 2, 0], [0, 0], [0, 0, 0], [0, 0, 0, 0, 0, 0, 0, 0, 0, 0, 0], [0], [0, 0]], [([0, 5], []), ([], []), ([1, 2, 3, 4, 8], [(true, 0)]), ([8], []), ([], []), ([11], []), ([9], []), ([], []), ([10], []), ([7, 10], [(true, 1)]), ([1, 2, 3, 4, 6, 11], [(true, 0)]), ([1, 2, 3, 4, 6, 9], [(true, 0)])]⟩
def ir_undertowlaw08_AluResultsl0 : C :=
 .seq (.seq (.reg [⟨.mv (.s 6), none⟩,
   ⟨.bin .lss (.r 0) (.c (.int .i64 54)), none⟩] [] [] [(9, 1, none)])
 (.cond (.s 9) (.skip)
  (.exit 0)))
 (.seq (.block 1 (.seq (.seq (.reg [⟨.load 0 true 9 (.s 4), none⟩,
    ⟨.lalloc 1 [.int .i64 0, .int .i64 0, .int .i64 0, .int .i64 0, .int .i64 0, .bool false, .bool false, .int .i64 0, .int .i64 0], none⟩,
    ⟨.store 0 9 (.r 1) (.r 0), none⟩] [(true, 1)] [] [(7, 1, some 3)])
  (.drop [9] []))
  (.seq (.seq (.reg [⟨.mv (.s 6), none⟩,
    ⟨.bin .gtr (.r 0) (.c (.int .i64 0)), none⟩] [] [] [(10, 1, none)])
  (.cond (.s 10) (.seq (.reg [⟨.mv (.s 6), none⟩,
     ⟨.off 0 (.s 7), none⟩,
     ⟨.store 0 1 (.r 1) (.r 0), none⟩] [] [] [])
   (.drop [10] []))
   (.skip)))
  (.seq (.seq (.reg [⟨.load 0 true 9 (.s 7), none⟩,
    ⟨.mv (.s 1), none⟩,
    ⟨.mv (.s 2), none⟩,
    ⟨.mv (.s 3), none⟩,
    ⟨.call .val n_alu_Result [(.r 0), (.r 1), (.r 2), (.r 3)], none⟩,
    ⟨.load 0 true 9 (.s 7), none⟩,
    ⟨.mv (.s 1), none⟩,
    ⟨.mv (.s 2), none⟩,
    ⟨.mv (.s 3), none⟩,
    ⟨.call .val n_undertowref08_Result [(.r 5), (.r 6), (.r 7), (.r 8)], none⟩,
    ⟨.bin .neq (.r 4) (.r 9), none⟩] [] [(0, 5), (4, 5)] [(11, 10, none)])
  (.drop [7, 10] [(true, 1)]))
  (.cond (.s 11) (.seq (.seq (.reg [⟨.mv (.c (.bool false)), none⟩] [] [] [(5, 0, none)])
   (.drop [1, 2, 3, 4, 6, 11] [(true, 0)]))
   (.ret))
   (.skip))))))
 (.seq (.reg [⟨.mv (.s 6), none⟩,
   ⟨.bin .add (.r 0) (.c (.int .i64 1)), none⟩,
   ⟨.mv (.r 1), none⟩] [] [] [(6, 2, none)])
 (.drop [11] [])))
def ir_undertowlaw08_AluResults : Vm.Fn := ⟨[0, 1, 2, 3, 4, 8, 9, 10, 12, 14, 19, 32], 2, 0, [.slot 5],
 .seq (.seq (.reg [⟨.lbox 0 9 (.s 0), none⟩,
   ⟨.mv (.c (.bool false)), none⟩] [(true, 0)] [] [(4, 0, some 1), (5, 1, none)])
 (.drop [0, 5] []))
 (.seq (.seq (.reg [⟨.call .val n_undertowlaw08_alive [], none⟩,
   ⟨.un .not (.r 0), none⟩] [] [] [(8, 1, none)])
 (.cond (.s 8) (.seq (.seq (.reg [⟨.mv (.c (.bool false)), none⟩] [] [] [(5, 0, none)])
  (.drop [1, 2, 3, 4, 8] [(true, 0)]))
  (.ret))
  (.skip)))
 (.seq (.seq (.seq (.reg [⟨.mv (.c (.int .i64 0)), none⟩] [] [] [(6, 0, none)])
 (.drop [8] []))
 (.block 0 (.loop ir_undertowlaw08_AluResultsl0)))
 (.seq (.seq (.reg [⟨.call .val n_undertowlaw08_alive [], none⟩,
   ⟨.mv (.r 0), none⟩] [] [] [(5, 1, none)])
 (.drop [1, 2, 3, 4, 6, 9] [(true, 0)]))
 (.ret))))⟩
/-- 4: undertow/undertowlaw08.AluNext -/
def h4 : Vm.Hint := ⟨[0, 1, 2, 3, 4, 8, 9, 10, 12, 14, 19, 43], [4, 10], [], [[1, 0], [0, 0], [0], [0], [0, 0], [0, 0, 0], [0, 2, 0], [0, 0], [0, 0, 0], [0, 0, 0, 0, 0, 0, 0, 0, 0, 0, 0, 0, 0, 0, 0, 0, 0, 0, 0, 0, 0, 0], [0], [0, 0]], [([0, 5], []), ([], []), ([1, 2, 3, 4, 8], [(true, 0)]), ([8], []), ([], []), ([11], []), ([9], []), ([], []), ([10], []), ([7, 10], [(true, 1)]), ([1, 2, 3, 4, 6, 11], [(true, 0)]), ([1, 2, 3, 4, 6, 9], [(true, 0)])]⟩
def ir_undertowlaw08_AluNextl0 : C :=
 .seq (.seq (.reg [⟨.mv (.s 6), none⟩,
   ⟨.bin .lss (.r 0) (.c (.int .i64 12)), none⟩] [] [] [(9, 1, none)])
 (.cond (.s 9) (.skip)
  (.exit 0)))
 (.seq (.block 1 (.seq (.seq (.reg [⟨.load 0 true 9 (.s 4), none⟩,
    ⟨.lalloc 1 [.int .i64 0, .int .i64 0, .int .i64 0, .int .i64 0, .int .i64 0, .bool false, .bool false, .int .i64 0, .int .i64 0], none⟩,
    ⟨.store 0 9 (.r 1) (.r 0), none⟩] [(true, 1)] [] [(7, 1, some 3)])
  (.drop [9] []))
  (.seq (.seq (.reg [⟨.mv (.s 6), none⟩,
    ⟨.bin .gtr (.r 0) (.c (.int .i64 0)), none⟩] [] [] [(10, 1, none)])
  (.cond (.s 10) (.seq (.reg [⟨.mv (.s 6), none⟩,
     ⟨.off 0 (.s 7), none⟩,
     ⟨.store 0 1 (.r 1) (.r 0), none⟩] [] [] [])
   (.drop [10] []))
   (.skip)))
  (.seq (.seq (.reg [⟨.load 0 true 9 (.s 7), none⟩,
    ⟨.mv (.s 2), none⟩,
    ⟨.mv (.s 3), none⟩,
    ⟨.call .val n_alu_Taken [(.r 0), (.r 1), (.r 2)], none⟩,
    ⟨.load 0 true 9 (.s 7), none⟩,
    ⟨.mv (.s 2), none⟩,
    ⟨.mv (.s 3), none⟩,
    ⟨.call .val n_undertowref08_Taken [(.r 4), (.r 5), (.r 6)], none⟩,
    ⟨.eqb true (.r 3) (.r 7), none⟩,
    ⟨.mv (.r 8), none⟩,
    ⟨.load 0 true 9 (.s 7), some (9, false)⟩,
    ⟨.mv (.s 1), some (9, false)⟩,
    ⟨.mv (.s 2), some (9, false)⟩,
    ⟨.mv (.s 3), some (9, false)⟩,
    ⟨.call .val n_alu_Next [(.r 10), (.r 11), (.r 12), (.r 13)], some (9, false)⟩,
    ⟨.load 0 true 9 (.s 7), some (9, false)⟩,
    ⟨.mv (.s 1), some (9, false)⟩,
    ⟨.mv (.s 2), some (9, false)⟩,
    ⟨.mv (.s 3), some (9, false)⟩,
    ⟨.call .val n_undertowref08_Next [(.r 15), (.r 16), (.r 17), (.r 18)], some (9, false)⟩,
    ⟨.bin .neq (.r 14) (.r 19), some (9, false)⟩,
    ⟨.pick (.r 9) (.c (.bool true)) (.r 20), none⟩] [] [(0, 4), (3, 4), (10, 15), (14, 15)] [(11, 21, none)])
  (.drop [7, 10] [(true, 1)]))
  (.cond (.s 11) (.seq (.seq (.reg [⟨.mv (.c (.bool false)), none⟩] [] [] [(5, 0, none)])
   (.drop [1, 2, 3, 4, 6, 11] [(true, 0)]))
   (.ret))
   (.skip))))))
 (.seq (.reg [⟨.mv (.s 6), none⟩,
   ⟨.bin .add (.r 0) (.c (.int .i64 1)), none⟩,
   ⟨.mv (.r 1), none⟩] [] [] [(6, 2, none)])
 (.drop [11] [])))
def ir_undertowlaw08_AluNext : Vm.Fn := ⟨[0, 1, 2, 3, 4, 8, 9, 10, 12, 14, 19, 43], 2, 0, [.slot 5],
 .seq (.seq (.reg [⟨.lbox 0 9 (.s 0), none⟩,
   ⟨.mv (.c (.bool false)), none⟩] [(true, 0)] [] [(4, 0, some 1), (5, 1, none)])
 (.drop [0, 5] []))
 (.seq (.seq (.reg [⟨.call .val n_undertowlaw08_alive [], none⟩,
   ⟨.un .not (.r 0), none⟩] [] [] [(8, 1, none)])
 (.cond (.s 8) (.seq (.seq (.reg [⟨.mv (.c (.bool false)), none⟩] [] [] [(5, 0, none)])
  (.drop [1, 2, 3, 4, 8] [(true, 0)]))
  (.ret))
  (.skip)))
 (.seq (.seq (.seq (.reg [⟨.mv (.c (.int .i64 0)), none⟩] [] [] [(6, 0, none)])
 (.drop [8] []))
 (.block 0 (.loop ir_undertowlaw08_AluNextl0)))
 (.seq (.seq (.reg [⟨.call .val n_undertowlaw08_alive [], none⟩,
   ⟨.mv (.r 0), none⟩] [] [] [(5, 1, none)])
 (.drop [1, 2, 3, 4, 6, 9] [(true, 0)]))
 (.ret))))⟩
/-- 5: undertow/undertowlaw08.AluMemory -/
def h5 : Vm.Hint := ⟨[0, 1, 2, 3, 4, 8, 9, 10, 12, 14, 19, 52], [4, 10], [], [[1, 0], [0, 0], [0], [0], [0, 0], [0, 0, 0], [0, 2, 0], [0, 0], [0, 0, 0], [0, 0, 0, 0, 0, 0, 0, 0, 0, 0, 0, 0, 0, 0, 0, 0, 0, 0, 0, 0, 0, 0, 0, 0, 0, 0, 0, 0, 0, 0, 0], [0], [0, 0]], [([0, 5], []), ([], []), ([1, 2, 3, 4, 8], [(true, 0)]), ([8], []), ([], []), ([11], []), ([9], []), ([], []), ([10], []), ([7, 10], [(true, 1)]), ([1, 2, 3, 4, 6, 11], [(true, 0)]), ([1, 2, 3, 4, 6, 9], [(true, 0)])]⟩
def ir_undertowlaw08_AluMemoryl0 : C :=
 .seq (.seq (.reg [⟨.mv (.s 6), none⟩,
   ⟨.bin .leq (.r 0) (.c (.int .i64 75)), none⟩] [] [] [(9, 1, none)])
 (.cond (.s 9) (.skip)
  (.exit 0)))
 (.seq (.block 1 (.seq (.seq (.reg [⟨.load 0 true 9 (.s 4), none⟩,
    ⟨.lalloc 1 [.int .i64 0, .int .i64 0, .int .i64 0, .int .i64 0, .int .i64 0, .bool false, .bool false, .int .i64 0, .int .i64 0], none⟩,
    ⟨.store 0 9 (.r 1) (.r 0), none⟩] [(true, 1)] [] [(7, 1, some 3)])
  (.drop [9] []))
  (.seq (.seq (.reg [⟨.mv (.s 6), none⟩,
    ⟨.bin .gtr (.r 0) (.c (.int .i64 0)), none⟩] [] [] [(10, 1, none)])
  (.cond (.s 10) (.seq (.reg [⟨.mv (.s 6), none⟩,
     ⟨.off 0 (.s 7), none⟩,
     ⟨.store 0 1 (.r 1) (.r 0), none⟩] [] [] [])
   (.drop [10] []))
   (.skip)))
  (.seq (.seq (.reg [⟨.load 0 true 9 (.s 7), none⟩,
    ⟨.mv (.s 1), none⟩,
    ⟨.call .val n_alu_Address [(.r 0), (.r 1)], none⟩,
    ⟨.load 0 true 9 (.s 7), none⟩,
    ⟨.mv (.s 1), none⟩,
    ⟨.call .val n_undertowref08_Address [(.r 3), (.r 4)], none⟩,
    ⟨.bin .neq (.r 2) (.r 5), none⟩,
    ⟨.mv (.r 6), none⟩,
    ⟨.off 0 (.s 7), some (7, false)⟩,
    ⟨.load 0 false 1 (.r 8), some (7, false)⟩,
    ⟨.mv (.s 2), some (7, false)⟩,
    ⟨.call .val n_alu_Loaded [(.r 9), (.r 10)], some (7, false)⟩,
    ⟨.off 0 (.s 7), some (7, false)⟩,
    ⟨.load 0 false 1 (.r 12), some (7, false)⟩,
    ⟨.mv (.s 2), some (7, false)⟩,
    ⟨.call .val n_undertowref08_Loaded [(.r 13), (.r 14)], some (7, false)⟩,
    ⟨.bin .neq (.r 11) (.r 15), some (7, false)⟩,
    ⟨.pick (.r 7) (.c (.bool true)) (.r 16), none⟩,
    ⟨.mv (.r 17), none⟩,
    ⟨.off 0 (.s 7), some (18, false)⟩,
    ⟨.load 0 false 1 (.r 19), some (18, false)⟩,
    ⟨.mv (.s 2), some (18, false)⟩,
    ⟨.mv (.s 3), some (18, false)⟩,
    ⟨.call .val n_alu_Stored [(.r 20), (.r 21), (.r 22)], some (18, false)⟩,
    ⟨.off 0 (.s 7), some (18, false)⟩,
    ⟨.load 0 false 1 (.r 24), some (18, false)⟩,
    ⟨.mv (.s 2), some (18, false)⟩,
    ⟨.mv (.s 3), some (18, false)⟩,
    ⟨.call .val n_undertowref08_Stored [(.r 25), (.r 26), (.r 27)], some (18, false)⟩,
    ⟨.bin .neq (.r 23) (.r 28), some (18, false)⟩,
    ⟨.pick (.r 18) (.c (.bool true)) (.r 29), none⟩] [] [(0, 3), (2, 3), (9, 13), (11, 13), (20, 25), (23, 25)] [(11, 30, none)])
  (.drop [7, 10] [(true, 1)]))
  (.cond (.s 11) (.seq (.seq (.reg [⟨.mv (.c (.bool false)), none⟩] [] [] [(5, 0, none)])
   (.drop [1, 2, 3, 4, 6, 11] [(true, 0)]))
   (.ret))
   (.skip))))))
 (.seq (.reg [⟨.mv (.s 6), none⟩,
   ⟨.bin .add (.r 0) (.c (.int .i64 1)), none⟩,
   ⟨.mv (.r 1), none⟩] [] [] [(6, 2, none)])
 (.drop [11] [])))
def ir_undertowlaw08_AluMemory : Vm.Fn := ⟨[0, 1, 2, 3, 4, 8, 9, 10, 12, 14, 19, 52], 2, 0, [.slot 5],
 .seq (.seq (.reg [⟨.lbox 0 9 (.s 0), none⟩,
   ⟨.mv (.c (.bool false)), none⟩] [(true, 0)] [] [(4, 0, some 1), (5, 1, none)])
 (.drop [0, 5] []))
 (.seq (.seq (.reg [⟨.call .val n_undertowlaw08_alive [], none⟩,
   ⟨.un .not (.r 0), none⟩] [] [] [(8, 1, none)])
 (.cond (.s 8) (.seq (.seq (.reg [⟨.mv (.c (.bool false)), none⟩] [] [] [(5, 0, none)])
  (.drop [1, 2, 3, 4, 8] [(true, 0)]))
  (.ret))
  (.skip)))
 (.seq (.seq (.seq (.reg [⟨.mv (.c (.int .i64 0)), none⟩] [] [] [(6, 0, none)])
 (.drop [8] []))
 (.block 0 (.loop ir_undertowlaw08_AluMemoryl0)))
 (.seq (.seq (.reg [⟨.call .val n_undertowlaw08_alive [], none⟩,
   ⟨.mv (.r 0), none⟩] [] [] [(5, 1, none)])
 (.drop [1, 2, 3, 4, 6, 9] [(true, 0)]))
 (.ret))))⟩
/-- 6: undertow/undertowlaw08.AluPairs -/
def h6 : Vm.Hint := ⟨[0, 1, 2, 6, 7, 8, 9, 10, 12, 18, 39, 41, 55], [], [], [[0], [0, 0], [0], [0, 0], [0, 0], [0], [0, 0, 0, 0], [0, 0, 0], [0, 0, 0, 0, 0, 0, 0, 0, 0, 0, 0, 0, 0, 0, 0, 0, 0, 0, 0], [0], [0], [0, 0], [0, 0, 0], [0, 0, 0, 0, 0, 0, 0, 0, 0, 0, 0, 0], [0], [0, 0, 0, 0, 0, 0, 0, 0, 0, 0, 0, 0, 0]], [([3], []), ([], []), ([0, 1, 2, 8], []), ([8], []), ([], []), ([], []), ([], []), ([10], []), ([9], []), ([0, 1, 2, 4, 5, 6, 10], []), ([0, 4, 5, 6, 9], []), ([], []), ([12], []), ([11], []), ([1, 2, 7, 12], []), ([1, 2, 7, 11], [])]⟩
def ir_undertowlaw08_AluPairsl0 : C :=
 .seq (.seq (.reg [⟨.mv (.s 6), none⟩,
   ⟨.mv (.s 5), none⟩,
   ⟨.len 1 (.r 1), none⟩,
   ⟨.bin .lss (.r 0) (.r 2), none⟩] [] [] [(9, 3, none)])
 (.cond (.s 9) (.skip)
  (.exit 0)))
 (.seq (.block 1 (.seq (.seq (.reg [⟨.mv (.s 4), none⟩,
    ⟨.mv (.s 6), none⟩,
    ⟨.iaS 1 (.r 0) (.r 1), none⟩,
    ⟨.load 0 false 1 (.r 2), none⟩,
    ⟨.mv (.s 0), none⟩,
    ⟨.build [.int .i64 0, .int .i64 0, .int .i64 0, .int .i64 0, .int .i64 0, .bool false, .bool false, .int .i64 0, .int .i64 0] [(0, 1, (.r 3)), (4, 1, (.r 4))], none⟩,
    ⟨.mv (.s 1), none⟩,
    ⟨.mv (.s 2), none⟩,
    ⟨.call .val n_alu_Result [(.r 5), (.c (.int .u64 0)), (.r 6), (.r 7)], none⟩,
    ⟨.mv (.s 5), none⟩,
    ⟨.mv (.s 6), none⟩,
    ⟨.iaS 1 (.r 9) (.r 10), none⟩,
    ⟨.load 0 false 1 (.r 11), none⟩,
    ⟨.build [.int .i64 0, .int .i64 0, .int .i64 0, .int .i64 0, .int .i64 0, .bool false, .bool false, .int .i64 0, .int .i64 0] [(0, 1, (.r 12))], none⟩,
    ⟨.mv (.s 1), none⟩,
    ⟨.mv (.s 0), none⟩,
    ⟨.i2i .u64 (.r 15), none⟩,
    ⟨.call .val n_alu_Result [(.r 13), (.c (.int .u64 0)), (.r 14), (.r 16)], none⟩,
    ⟨.bin .neq (.r 8) (.r 17), none⟩] [] [(2, 11), (2, 12), (3, 11), (3, 12), (8, 11), (8, 12)] [(10, 18, none)])
  (.drop [9] []))
  (.cond (.s 10) (.seq (.seq (.reg [⟨.mv (.c (.bool false)), none⟩] [] [] [(3, 0, none)])
   (.drop [0, 1, 2, 4, 5, 6, 10] []))
   (.ret))
   (.skip))))
 (.seq (.reg [⟨.mv (.s 6), none⟩,
   ⟨.bin .add (.r 0) (.c (.int .i64 1)), none⟩,
   ⟨.mv (.r 1), none⟩] [] [] [(6, 2, none)])
 (.drop [10] [])))
def ir_undertowlaw08_AluPairsl1 : C :=
 .seq (.seq (.reg [⟨.mv (.s 7), none⟩,
   ⟨.bin .lss (.r 0) (.c (.int .i64 10)), none⟩] [] [] [(11, 1, none)])
 (.cond (.s 11) (.skip)
  (.exit 2)))
 (.seq (.block 3 (.seq (.seq (.reg [⟨.mv (.s 7), none⟩,
    ⟨.build [.int .i64 0, .int .i64 0, .int .i64 0, .int .i64 0, .int .i64 0, .bool false, .bool false, .int .i64 0, .int .i64 0] [(0, 1, (.r 0))], none⟩,
    ⟨.mv (.s 1), none⟩,
    ⟨.mv (.s 2), none⟩,
    ⟨.call .val n_alu_Taken [(.r 1), (.r 2), (.r 3)], none⟩,
    ⟨.mv (.s 7), none⟩,
    ⟨.bin .add (.r 5) (.c (.int .i64 1)), none⟩,
    ⟨.build [.int .i64 0, .int .i64 0, .int .i64 0, .int .i64 0, .int .i64 0, .bool false, .bool false, .int .i64 0, .int .i64 0] [(0, 1, (.r 6))], none⟩,
    ⟨.mv (.s 1), none⟩,
    ⟨.mv (.s 2), none⟩,
    ⟨.call .val n_alu_Taken [(.r 7), (.r 8), (.r 9)], none⟩,
    ⟨.eqb false (.r 4) (.r 10), none⟩] [] [] [(12, 11, none)])
  (.drop [11] []))
  (.cond (.s 12) (.seq (.seq (.reg [⟨.mv (.c (.bool false)), none⟩] [] [] [(3, 0, none)])
   (.drop [1, 2, 7, 12] []))
   (.ret))
   (.skip))))
 (.seq (.reg [⟨.mv (.s 7), none⟩,
   ⟨.bin .add (.r 0) (.c (.int .i64 2)), none⟩,
   ⟨.mv (.r 1), none⟩] [] [] [(7, 2, none)])
 (.drop [12] [])))
def ir_undertowlaw08_AluPairs : Vm.Fn := ⟨[0, 1, 2, 6, 7, 8, 9, 10, 12, 18, 39, 41, 55], 0, 0, [.slot 3],
 .seq (.seq (.reg [⟨.mv (.c (.bool false)), none⟩] [] [] [(3, 0, none)])
 (.drop [3] []))
 (.seq (.seq (.reg [⟨.call .val n_undertowlaw08_alive [], none⟩,
   ⟨.un .not (.r 0), none⟩] [] [] [(8, 1, none)])
 (.cond (.s 8) (.seq (.seq (.reg [⟨.mv (.c (.bool false)), none⟩] [] [] [(3, 0, none)])
  (.drop [0, 1, 2, 8] []))
  (.ret))
  (.skip)))
 (.seq (.seq (.reg [⟨.lit 0 1 [[.int .i64 0], [.int .i64 0], [.int .i64 0], [.int .i64 0], [.int .i64 0], [.int .i64 0], [.int .i64 0], [.int .i64 0], [.int .i64 0], [.int .i64 0], [.int .i64 0], [.int .i64 0], [.int .i64 0]] [(0, (.c (.int .i64 22))), (1, (.c (.int .i64 23))), (2, (.c (.int .i64 24))), (3, (.c (.int .i64 25))), (4, (.c (.int .i64 26))), (5, (.c (.int .i64 27))), (6, (.c (.int .i64 28))), (7, (.c (.int .i64 29))), (8, (.c (.int .i64 30))), (9, (.c (.int .i64 31))), (10, (.c (.int .i64 32))), (11, (.c (.int .i64 33))), (12, (.c (.int .i64 34)))], none⟩,
   ⟨.mv (.r 0), none⟩] [] [] [(4, 1, none)])
 (.drop [8] []))
 (.seq (.reg [⟨.lit 0 1 [[.int .i64 0], [.int .i64 0], [.int .i64 0], [.int .i64 0], [.int .i64 0], [.int .i64 0], [.int .i64 0], [.int .i64 0], [.int .i64 0], [.int .i64 0], [.int .i64 0], [.int .i64 0], [.int .i64 0]] [(0, (.c (.int .i64 35))), (1, (.c (.int .i64 38))), (2, (.c (.int .i64 39))), (3, (.c (.int .i64 40))), (4, (.c (.int .i64 43))), (5, (.c (.int .i64 44))), (6, (.c (.int .i64 37))), (7, (.c (.int .i64 41))), (8, (.c (.int .i64 42))), (9, (.c (.int .i64 45))), (10, (.c (.int .i64 47))), (11, (.c (.int .i64 48))), (12, (.c (.int .i64 49)))], none⟩,
   ⟨.mv (.r 0), none⟩] [] [] [(5, 1, none)])
 (.seq (.seq (.reg [⟨.mv (.c (.int .i64 0)), none⟩] [] [] [(6, 0, none)])
 (.block 0 (.loop ir_undertowlaw08_AluPairsl0)))
 (.seq (.seq (.seq (.reg [⟨.mv (.c (.int .i64 5)), none⟩] [] [] [(7, 0, none)])
 (.drop [0, 4, 5, 6, 9] []))
 (.block 2 (.loop ir_undertowlaw08_AluPairsl1)))
 (.seq (.seq (.reg [⟨.call .val n_undertowlaw08_alive [], none⟩,
   ⟨.mv (.r 0), none⟩,
   ⟨.build [.int .i64 0, .int .i64 0, .int .i64 0, .int .i64 0, .int .i64 0, .bool false, .bool false, .int .i64 0, .int .i64 0] [(0, 1, (.c (.int .i64 36)))], some (1, true)⟩,
   ⟨.build [.int .i64 0, .int .i64 0, .int .i64 0, .int .i64 0, .int .i64 0, .bool false, .bool false, .int .i64 0, .int .i64 0] [(0, 1, (.c (.int .i64 35)))], some (1, true)⟩,
   ⟨.mv (.s 1), some (1, true)⟩,
   ⟨.mv (.s 2), some (1, true)⟩,
   ⟨.call .val n_alu_Result [(.r 3), (.c (.int .u64 0)), (.r 4), (.r 5)], some (1, true)⟩,
   ⟨.mv (.s 2), some (1, true)⟩,
   ⟨.call .val n_alu_Result [(.r 2), (.c (.int .u64 0)), (.r 6), (.r 7)], some (1, true)⟩,
   ⟨.mv (.s 1), some (1, true)⟩,
   ⟨.bin .eql (.r 8) (.r 9), some (1, true)⟩,
   ⟨.pick (.r 1) (.r 10) (.c (.bool false)), none⟩,
   ⟨.mv (.r 11), none⟩] [] [] [(3, 12, none)])
 (.drop [1, 2, 7, 11] []))
 (.ret)))))))⟩
/-- 7: undertow/undertowlaw08.AluBack -/
def h7 : Vm.Hint := ⟨[0, 1, 2, 6, 7, 8, 9, 10, 11, 12, 13, 14, 16, 32, 34, 47], [], [], [[0], [0, 0], [0], [0, 0, 0, 0], [0, 0, 0, 0, 0], [0, 0, 0, 0, 0, 0, 0, 0, 0], [0], [0], [0, 0], [0, 0, 0], [0, 0, 0, 0, 0], [0, 0, 0, 0, 0, 0, 0], [0], [0, 0, 0, 0, 0, 0, 0, 0], [0, 0, 0, 0, 0, 0, 0, 0], [0, 0, 0, 0, 0, 0, 0, 0, 0, 0, 0, 0, 0, 0, 0, 0, 0, 0, 0, 0, 0, 0, 0, 0, 0, 0, 0, 0, 0, 0, 0, 0, 0, 0, 0, 0, 0, 0, 0, 0, 0, 0, 0, 0, 0, 0, 0]], [([3], []), ([], []), ([0, 1, 2, 12], []), ([2, 12], []), ([], []), ([4, 5], []), ([0, 1, 13], []), ([13], []), ([], []), ([15], []), ([14], []), ([7], []), ([0, 1, 6, 15], []), ([6, 14], []), ([], []), ([0, 1, 8, 9, 10, 11], [])]⟩
def ir_undertowlaw08_AluBackl0 : C :=
 .seq (.seq (.reg [⟨.mv (.s 6), none⟩,
   ⟨.bin .leq (.r 0) (.c (.int .i64 75)), none⟩] [] [] [(14, 1, none)])
 (.cond (.s 14) (.skip)
  (.exit 0)))
 (.seq (.block 1 (.seq (.seq (.reg [⟨.mv (.s 6), none⟩,
    ⟨.mv (.s 0), none⟩,
    ⟨.mv (.s 1), none⟩,
    ⟨.call .val n_alu_Stored [(.r 0), (.r 1), (.r 2)], none⟩,
    ⟨.mv (.r 3), none⟩] [] [] [(7, 4, none)])
  (.drop [14] []))
  (.seq (.seq (.reg [⟨.mv (.s 7), none⟩,
    ⟨.mv (.s 6), none⟩,
    ⟨.call .val n_undertowref05_Size [(.r 1)], none⟩,
    ⟨.bin .mul (.c (.int .i64 8)) (.r 2), none⟩,
    ⟨.call .val n_undertowref01_Zext [(.r 0), (.r 3)], none⟩,
    ⟨.mv (.s 7), none⟩,
    ⟨.bin .neq (.r 4) (.r 5), none⟩] [] [] [(15, 6, none)])
  (.drop [7] []))
  (.cond (.s 15) (.seq (.seq (.reg [⟨.mv (.c (.bool false)), none⟩] [] [] [(3, 0, none)])
   (.drop [0, 1, 6, 15] []))
   (.ret))
   (.skip)))))
 (.seq (.reg [⟨.mv (.s 6), none⟩,
   ⟨.bin .add (.r 0) (.c (.int .i64 1)), none⟩,
   ⟨.mv (.r 1), none⟩] [] [] [(6, 2, none)])
 (.drop [15] [])))
def ir_undertowlaw08_AluBack : Vm.Fn := ⟨[0, 1, 2, 6, 7, 8, 9, 10, 11, 12, 13, 14, 16, 32, 34, 47], 0, 0, [.slot 3],
 .seq (.seq (.reg [⟨.mv (.c (.bool false)), none⟩] [] [] [(3, 0, none)])
 (.drop [3] []))
 (.seq (.seq (.reg [⟨.call .val n_undertowlaw08_alive [], none⟩,
   ⟨.un .not (.r 0), none⟩] [] [] [(12, 1, none)])
 (.cond (.s 12) (.seq (.seq (.reg [⟨.mv (.c (.bool false)), none⟩] [] [] [(3, 0, none)])
  (.drop [0, 1, 2, 12] []))
  (.ret))
  (.skip)))
 (.seq (.seq (.reg [⟨.mv (.s 2), none⟩,
   ⟨.bin .rem (.r 0) (.c (.int .u8 64)), none⟩,
   ⟨.i2i .i64 (.r 1), none⟩,
   ⟨.mv (.r 2), none⟩] [] [] [(4, 3, none)])
 (.drop [2, 12] []))
 (.seq (.reg [⟨.mv (.s 4), none⟩,
   ⟨.build [.int .i64 0, .int .i64 0, .int .i64 0, .int .i64 0, .int .i64 0, .bool false, .bool false, .int .i64 0, .int .i64 0] [(0, 1, (.c (.int .i64 28))), (4, 1, (.r 0))], none⟩,
   ⟨.mv (.s 0), none⟩,
   ⟨.call .val n_alu_Result [(.r 1), (.c (.int .u64 0)), (.r 2), (.c (.int .u64 0))], none⟩,
   ⟨.mv (.r 3), none⟩] [] [] [(5, 4, none)])
 (.seq (.seq (.seq (.reg [⟨.mv (.s 4), none⟩,
   ⟨.build [.int .i64 0, .int .i64 0, .int .i64 0, .int .i64 0, .int .i64 0, .bool false, .bool false, .int .i64 0, .int .i64 0] [(0, 1, (.c (.int .i64 29))), (4, 1, (.r 0))], none⟩,
   ⟨.mv (.s 5), none⟩,
   ⟨.call .val n_alu_Result [(.r 1), (.c (.int .u64 0)), (.r 2), (.c (.int .u64 0))], none⟩,
   ⟨.mv (.s 0), none⟩,
   ⟨.mv (.s 4), none⟩,
   ⟨.bin .sub (.c (.int .i64 64)) (.r 5), none⟩,
   ⟨.call .val n_undertowref01_Zext [(.r 4), (.r 6)], none⟩,
   ⟨.bin .neq (.r 3) (.r 7), none⟩] [] [] [(13, 8, none)])
 (.drop [4, 5] []))
 (.cond (.s 13) (.seq (.seq (.reg [⟨.mv (.c (.bool false)), none⟩] [] [] [(3, 0, none)])
  (.drop [0, 1, 13] []))
  (.ret))
  (.skip)))
 (.seq (.seq (.seq (.reg [⟨.mv (.c (.int .i64 58)), none⟩] [] [] [(6, 0, none)])
 (.drop [13] []))
 (.block 0 (.loop ir_undertowlaw08_AluBackl0)))
 (.seq (.seq (.reg [⟨.mv (.s 0), none⟩,
   ⟨.mv (.s 1), none⟩,
   ⟨.call .val n_alu_Stored [(.c (.int .i64 72)), (.r 0), (.r 1)], none⟩,
   ⟨.mv (.s 0), none⟩,
   ⟨.mv (.s 1), none⟩,
   ⟨.call .val n_alu_Stored [(.c (.int .i64 73)), (.r 3), (.r 4)], none⟩,
   ⟨.mv (.r 2), none⟩,
   ⟨.mv (.r 5), none⟩] [] [] [(8, 6, none), (9, 7, none)])
 (.drop [6, 14] []))
 (.seq (.reg [⟨.mv (.s 0), none⟩,
   ⟨.mv (.s 1), none⟩,
   ⟨.call .val n_alu_Stored [(.c (.int .i64 74)), (.r 0), (.r 1)], none⟩,
   ⟨.mv (.s 0), none⟩,
   ⟨.mv (.s 1), none⟩,
   ⟨.call .val n_alu_Stored [(.c (.int .i64 75)), (.r 3), (.r 4)], none⟩,
   ⟨.mv (.r 2), none⟩,
   ⟨.mv (.r 5), none⟩] [] [] [(10, 6, none), (11, 7, none)])
 (.seq (.seq (.reg [⟨.call .val n_undertowlaw08_alive [], none⟩,
   ⟨.mv (.r 0), none⟩,
   ⟨.mv (.s 8), some (1, true)⟩,
   ⟨.mv (.s 0), some (1, true)⟩,
   ⟨.bin .eql (.r 2) (.r 3), some (1, true)⟩,
   ⟨.mv (.r 4), some (1, true)⟩,
   ⟨.mv (.s 9), some (5, true)⟩,
   ⟨.mv (.s 1), some (5, true)⟩,
   ⟨.bin .eql (.r 6) (.r 7), some (5, true)⟩,
   ⟨.pick (.r 5) (.r 8) (.c (.bool false)), some (1, true)⟩,
   ⟨.mv (.r 9), some (1, true)⟩,
   ⟨.mv (.s 8), some (10, false)⟩,
   ⟨.mv (.s 1), some (10, false)⟩,
   ⟨.bin .eql (.r 11) (.r 12), some (10, false)⟩,
   ⟨.mv (.r 13), some (10, false)⟩,
   ⟨.mv (.s 9), some (14, true)⟩,
   ⟨.mv (.s 0), some (14, true)⟩,
   ⟨.bin .eql (.r 15) (.r 16), some (14, true)⟩,
   ⟨.pick (.r 14) (.r 17) (.c (.bool false)), some (10, false)⟩,
   ⟨.pick (.r 10) (.c (.bool true)) (.r 18), some (1, true)⟩,
   ⟨.pick (.r 1) (.r 19) (.c (.bool false)), none⟩,
   ⟨.mv (.r 20), none⟩,
   ⟨.mv (.s 10), some (21, true)⟩,
   ⟨.mv (.s 0), some (21, true)⟩,
   ⟨.bin .eql (.r 22) (.r 23), some (21, true)⟩,
   ⟨.mv (.r 24), some (21, true)⟩,
   ⟨.mv (.s 11), some (25, true)⟩,
   ⟨.mv (.s 1), some (25, true)⟩,
   ⟨.bin .eql (.r 26) (.r 27), some (25, true)⟩,
   ⟨.pick (.r 25) (.r 28) (.c (.bool false)), some (21, true)⟩,
   ⟨.mv (.r 29), some (21, true)⟩,
   ⟨.mv (.s 10), some (30, false)⟩,
   ⟨.mv (.s 1), some (30, false)⟩,
   ⟨.bin .eql (.r 31) (.r 32), some (30, false)⟩,
   ⟨.mv (.r 33), some (30, false)⟩,
   ⟨.mv (.s 11), some (34, true)⟩,
   ⟨.mv (.s 0), some (34, true)⟩,
   ⟨.bin .eql (.r 35) (.r 36), some (34, true)⟩,
   ⟨.pick (.r 34) (.r 37) (.c (.bool false)), some (30, false)⟩,
   ⟨.pick (.r 30) (.c (.bool true)) (.r 38), some (21, true)⟩,
   ⟨.pick (.r 21) (.r 39) (.c (.bool false)), none⟩,
   ⟨.mv (.r 40), none⟩,
   ⟨.mv (.s 10), some (41, true)⟩,
   ⟨.mv (.s 11), some (41, true)⟩,
   ⟨.bin .leq (.r 42) (.r 43), some (41, true)⟩,
   ⟨.pick (.r 41) (.r 44) (.c (.bool false)), none⟩,
   ⟨.mv (.r 45), none⟩] [] [] [(3, 46, none)])
 (.drop [0, 1, 8, 9, 10, 11] []))
 (.ret)))))))))⟩
/-- 8: undertow/undertowlaw08.alive -/
def h8 : Vm.Hint := ⟨[0, 1], [], [], [[0], [0], [0, 0, 0, 0, 0, 0, 0, 0, 0, 0, 0, 0, 0, 0, 0, 0, 0, 0, 0, 0, 0, 0, 0, 0, 0, 0, 0, 0, 0, 0, 0, 0, 0]], [([0], []), ([], []), ([1], [])]⟩
def ir_undertowlaw08_alive : Vm.Fn := ⟨[0, 1], 0, 0, [.slot 0],
 .seq (.seq (.reg [⟨.mv (.c (.bool false)), none⟩] [] [] [(0, 0, none)])
 (.drop [0] []))
 (.seq (.reg [⟨.mv (.c (.int .u64 18446744073709551614)), none⟩] [] [] [(1, 0, none)])
 (.seq (.seq (.reg [⟨.build [.int .i64 0, .int .i64 0, .int .i64 0, .int .i64 0, .int .i64 0, .bool false, .bool false, .int .i64 0, .int .i64 0] [(0, 1, (.c (.int .i64 30))), (4, 1, (.c (.int .i64 1)))], none⟩,
   ⟨.mv (.s 1), none⟩,
   ⟨.call .val n_alu_Result [(.r 0), (.c (.int .u64 0)), (.r 1), (.c (.int .u64 0))], none⟩,
   ⟨.mv (.s 1), none⟩,
   ⟨.bin .add (.r 3) (.c (.int .u64 1)), none⟩,
   ⟨.bin .eql (.r 2) (.r 4), none⟩,
   ⟨.mv (.r 5), none⟩,
   ⟨.call .val n_alu_Stored [(.c (.int .i64 63)), (.c (.int .u64 4294967295)), (.c (.int .u64 1))], some (6, true)⟩,
   ⟨.bin .eql (.r 7) (.c (.int .u64 4294967295)), some (6, true)⟩,
   ⟨.pick (.r 6) (.r 8) (.c (.bool false)), none⟩,
   ⟨.mv (.r 9), none⟩,
   ⟨.build [.int .i64 0, .int .i64 0, .int .i64 0, .int .i64 0, .int .i64 0, .bool false, .bool false, .int .i64 0, .int .i64 0] [(0, 1, (.c (.int .i64 4))), (4, 1, (.c (.int .i64 1)))], some (10, true)⟩,
   ⟨.call .val n_alu_Next [(.r 11), (.c (.int .u64 0)), (.c (.int .u64 2)), (.c (.int .u64 0))], some (10, true)⟩,
   ⟨.bin .eql (.r 12) (.c (.int .u64 2)), some (10, true)⟩,
   ⟨.pick (.r 10) (.r 13) (.c (.bool false)), none⟩,
   ⟨.mv (.r 14), none⟩,
   ⟨.call .val n_alu_Loaded [(.c (.int .i64 11)), (.c (.int .u64 128))], some (15, true)⟩,
   ⟨.bin .eql (.r 16) (.c (.int .u64 18446744073709551488)), some (15, true)⟩,
   ⟨.pick (.r 15) (.r 17) (.c (.bool false)), none⟩,
   ⟨.mv (.r 18), none⟩,
   ⟨.call .val n_alu_Where [(.c (.int .i64 13)), (.c (.int .u64 2)), (.c (.int .i64 8))], some (19, true)⟩,
   ⟨.bin .eql (.r 20) (.c (.int .i64 4)), some (19, true)⟩,
   ⟨.pick (.r 19) (.r 21) (.c (.bool false)), none⟩,
   ⟨.mv (.r 22), none⟩,
   ⟨.build [.int .i64 0, .int .i64 0, .int .i64 0, .int .i64 0, .int .i64 0, .bool false, .bool false, .int .i64 0, .int .i64 0] [(0, 1, (.c (.int .i64 5)))], some (23, true)⟩,
   ⟨.call .val n_alu_Taken [(.r 24), (.c (.int .u64 1)), (.c (.int .u64 1))], some (23, true)⟩,
   ⟨.pick (.r 23) (.r 25) (.c (.bool false)), none⟩,
   ⟨.mv (.r 26), none⟩,
   ⟨.build [.int .i64 0, .int .i64 0, .int .i64 0, .int .i64 0, .int .i64 0, .bool false, .bool false, .int .i64 0, .int .i64 0] [(0, 1, (.c (.int .i64 20))), (4, 1, (.c (.int .i64 4)))], some (27, true)⟩,
   ⟨.call .val n_alu_Address [(.r 28), (.c (.int .u64 4))], some (27, true)⟩,
   ⟨.bin .eql (.r 29) (.c (.int .u64 8)), some (27, true)⟩,
   ⟨.pick (.r 27) (.r 30) (.c (.bool false)), none⟩,
   ⟨.mv (.r 31), none⟩] [] [] [(0, 32, none)])
 (.drop [1] []))
 (.ret)))⟩
/-- 9: undertow/alu.Result -/
def h9 : Vm.Hint := ⟨[0, 1, 2, 3, 4, 8, 9, 15, 16, 20, 25, 29, 39], [4], [], [[1, 0], [0, 0, 0, 0], [0, 0, 0], [0, 0], [0, 0, 0], [0, 0], [0, 0, 0, 0], [0, 0], [0, 0, 0], [0, 0], [0, 0, 0, 0, 0, 0, 0, 0, 0], [0, 0], [0, 0, 0, 0, 0, 0], [0]], [([0, 5], []), ([], []), ([], []), ([], []), ([2, 3, 4, 7, 8], [(true, 0)]), ([1, 6, 9], []), ([1, 6, 9], []), ([8], []), ([1, 2, 3, 4, 6, 7, 10], [(true, 0)]), ([1, 10], []), ([2, 3, 4, 6, 7, 11], [(true, 0)]), ([6, 7, 11], []), ([2, 3, 4, 12], [(true, 0)]), ([2, 3, 4, 12], [(true, 0)])]⟩
def ir_alu_Result : Vm.Fn := ⟨[0, 1, 2, 3, 4, 8, 9, 15, 16, 20, 25, 29, 39], 1, 0, [.slot 5],
 .seq (.seq (.reg [⟨.lbox 0 9 (.s 0), none⟩,
   ⟨.mv (.c (.int .u64 0)), none⟩] [(true, 0)] [] [(4, 0, some 1), (5, 1, none)])
 (.drop [0, 5] []))
 (.seq (.reg [⟨.off 4 (.s 4), none⟩,
   ⟨.load 0 false 1 (.r 0), none⟩,
   ⟨.i2i .u64 (.r 1), none⟩,
   ⟨.mv (.r 2), none⟩] [] [] [(6, 3, none)])
 (.seq (.seq (.reg [⟨.off 0 (.s 4), none⟩,
   ⟨.load 0 false 1 (.r 0), none⟩,
   ⟨.call .val n_ops_Sort [(.r 1)], none⟩] [] [] [(7, 2, none)])
 (.block 0 (.seq (.reg [⟨.bin .eql (.s 7) (.c (.int .i64 1)), none⟩,
    ⟨.mv (.r 0), none⟩] [] [] [(8, 1, none)])
  (.cond (.s 8) (.seq (.seq (.seq (.reg [⟨.off 0 (.s 4), none⟩,
     ⟨.load 0 false 1 (.r 0), none⟩,
     ⟨.bin .eql (.r 1) (.c (.int .i64 1)), none⟩] [] [] [(9, 2, none)])
   (.drop [2, 3, 4, 7, 8] [(true, 0)]))
   (.cond (.s 9) (.seq (.seq (.reg [⟨.mv (.s 6), none⟩,
      ⟨.mv (.r 0), none⟩] [] [] [(5, 1, none)])
    (.drop [1, 6, 9] []))
    (.ret))
    (.skip)))
   (.seq (.seq (.reg [⟨.mv (.s 1), none⟩,
     ⟨.mv (.s 6), none⟩,
     ⟨.bin .add (.r 0) (.r 1), none⟩,
     ⟨.mv (.r 2), none⟩] [] [] [(5, 3, none)])
   (.drop [1, 6, 9] []))
   (.ret)))
   (.seq (.seq (.reg [⟨.bin .eql (.s 7) (.c (.int .i64 2)), none⟩,
     ⟨.mv (.r 0), none⟩] [] [] [(10, 1, none)])
   (.drop [8] []))
   (.cond (.s 10) (.seq (.seq (.reg [⟨.mv (.s 1), none⟩,
      ⟨.bin .add (.r 0) (.c (.int .u64 4)), none⟩,
      ⟨.mv (.r 1), none⟩] [] [] [(5, 2, none)])
    (.drop [1, 2, 3, 4, 6, 7, 10] [(true, 0)]))
    (.ret))
    (.seq (.seq (.reg [⟨.bin .eql (.s 7) (.c (.int .i64 6)), none⟩,
      ⟨.mv (.r 0), none⟩] [] [] [(11, 1, none)])
    (.drop [1, 10] []))
    (.cond (.s 11) (.seq (.seq (.reg [⟨.call .val n_alu_pairs [], none⟩,
       ⟨.off 0 (.s 4), none⟩,
       ⟨.load 0 false 1 (.r 1), none⟩,
       ⟨.bin .sub (.r 2) (.c (.int .i64 22)), none⟩,
       ⟨.ixA 13 1 false (.r 0) (.r 3), none⟩,
       ⟨.mv (.s 2), none⟩,
       ⟨.mv (.s 6), none⟩,
       ⟨.call .val n_alu_pair [(.r 4), (.r 5), (.r 6)], none⟩,
       ⟨.mv (.r 7), none⟩] [] [(0, 2)] [(5, 8, none)])
     (.drop [2, 3, 4, 6, 7, 11] [(true, 0)]))
     (.ret))
     (.seq (.seq (.reg [⟨.bin .eql (.s 7) (.c (.int .i64 7)), none⟩,
       ⟨.mv (.r 0), none⟩] [] [] [(12, 1, none)])
     (.drop [6, 7, 11] []))
     (.cond (.s 12) (.seq (.seq (.reg [⟨.off 0 (.s 4), none⟩,
        ⟨.load 0 false 1 (.r 0), none⟩,
        ⟨.mv (.s 2), none⟩,
        ⟨.mv (.s 3), none⟩,
        ⟨.call .val n_alu_pair [(.r 1), (.r 2), (.r 3)], none⟩,
        ⟨.mv (.r 4), none⟩] [] [] [(5, 5, none)])
      (.drop [2, 3, 4, 12] [(true, 0)]))
      (.ret))
      (.skip)))))))))))
 (.seq (.seq (.reg [⟨.mv (.c (.int .u64 0)), none⟩] [] [] [(5, 0, none)])
 (.drop [2, 3, 4, 12] [(true, 0)]))
 (.ret))))⟩
/-- 10: undertow/undertowref08.Result -/
def h10 : Vm.Hint := ⟨[0, 1, 2, 3, 4, 8, 9, 10, 11, 19, 25, 26, 29, 34, 39, 45, 52, 59, 66, 76, 86, 92, 100, 108, 118, 125, 133, 142, 151], [4], [], [[1, 0], [0, 0, 0, 0], [0, 0, 0, 0], [0, 0], [0, 0], [0, 0, 0], [0, 0, 0], [0, 0], [0, 0], [0, 0], [0, 0, 0, 0], [0, 0], [0, 0], [0, 0, 0], [0, 0], [0, 0], [0, 0, 0, 0], [0, 0], [0, 0, 0, 0, 0, 0], [0, 0], [0, 0], [0, 0, 0, 0, 0], [0, 0], [0, 0], [0, 0, 0, 0, 0], [0, 0], [0, 0], [0, 0, 0, 0, 0, 0, 0, 0], [0, 0], [0, 0], [0, 0, 0, 0, 0, 0, 0, 0], [0, 0], [0, 0], [0, 0, 0, 0], [0, 0], [0, 0], [0, 0, 0, 0, 0, 0], [0, 0], [0, 0], [0, 0, 0, 0, 0, 0], [0, 0], [0, 0], [0, 0, 0, 0, 0, 0, 0, 0], [0, 0], [0, 0], [0, 0, 0, 0, 0], [0, 0], [0, 0, 0, 0, 0, 0, 0], [0, 0], [0, 0], [0, 0, 0, 0, 0, 0, 0], [0, 0], [0, 0], [0, 0, 0, 0, 0, 0, 0], [0, 0], [0, 0], [0, 0, 0, 0, 0, 0, 0, 0, 0], [0]], [([0, 5], []), ([], []), ([], []), ([6], []), ([9], []), ([9], []), ([4], [(true, 0)]), ([], []), ([1, 2, 3, 7, 8, 10, 11], []), ([11], []), ([1, 2, 3, 7, 8, 10, 12], []), ([7, 12], []), ([], []), ([1, 2, 3, 8, 10, 13], []), ([1, 13], []), ([], []), ([2, 3, 8, 10, 14], []), ([14], []), ([2, 3, 8, 10, 15], []), ([15], []), ([], []), ([2, 3, 8, 10, 16], []), ([16], []), ([], []), ([2, 3, 8, 10, 17], []), ([17], []), ([], []), ([2, 3, 8, 10, 18], []), ([18], []), ([], []), ([2, 3, 8, 10, 19], []), ([19], []), ([], []), ([2, 3, 8, 10, 20], []), ([20], []), ([], []), ([2, 3, 8, 10, 21], []), ([21], []), ([], []), ([2, 3, 8, 10, 22], []), ([22], []), ([], []), ([2, 3, 8, 10, 23], []), ([23], []), ([], []), ([2, 3, 8, 10, 24], []), ([24], []), ([2, 3, 8, 10, 25], []), ([25], []), ([], []), ([2, 3, 8, 10, 26], []), ([2, 26], []), ([], []), ([3, 8, 10, 27], []), ([27], []), ([10], []), ([3, 8, 10, 28], []), ([3, 8, 10, 28], [])]⟩
def ir_undertowref08_Result : Vm.Fn := ⟨[0, 1, 2, 3, 4, 8, 9, 10, 11, 19, 25, 26, 29, 34, 39, 45, 52, 59, 66, 76, 86, 92, 100, 108, 118, 125, 133, 142, 151], 1, 0, [.slot 5],
 .seq (.seq (.reg [⟨.lbox 0 9 (.s 0), none⟩,
   ⟨.mv (.c (.int .u64 0)), none⟩] [(true, 0)] [] [(4, 0, some 1), (5, 1, none)])
 (.drop [0, 5] []))
 (.seq (.reg [⟨.off 0 (.s 4), none⟩,
   ⟨.load 0 false 1 (.r 0), none⟩,
   ⟨.call .val n_undertowref05_Sort [(.r 1)], none⟩,
   ⟨.mv (.r 2), none⟩] [] [] [(6, 3, none)])
 (.seq (.reg [⟨.off 4 (.s 4), none⟩,
   ⟨.load 0 false 1 (.r 0), none⟩,
   ⟨.i2i .u64 (.r 1), none⟩,
   ⟨.mv (.r 2), none⟩] [] [] [(7, 3, none)])
 (.seq (.seq (.seq (.reg [⟨.mv (.s 6), none⟩,
   ⟨.bin .eql (.r 0) (.c (.int .i64 6)), none⟩] [] [] [(9, 1, none)])
 (.drop [6] []))
 (.cond (.s 9) (.seq (.reg [⟨.mv (.s 7), none⟩,
    ⟨.mv (.r 0), none⟩] [] [] [(3, 1, none)])
  (.drop [9] []))
  (.skip)))
 (.seq (.seq (.reg [⟨.mv (.s 2), none⟩,
   ⟨.call .val n_undertowref01_Zext [(.r 0), (.c (.int .i64 32))], none⟩,
   ⟨.mv (.r 1), none⟩] [] [] [(8, 2, none)])
 (.drop [9] []))
 (.seq (.seq (.seq (.reg [⟨.off 0 (.s 4), none⟩,
   ⟨.load 0 false 1 (.r 0), none⟩,
   ⟨.call .val n_undertowref05_Name [(.r 1)], none⟩] [] [] [(10, 2, none)])
 (.drop [4] [(true, 0)]))
 (.block 0 (.seq (.reg [⟨.bin .eql (.s 10) (.c (.str [108, 117, 105])), none⟩,
    ⟨.mv (.r 0), none⟩] [] [] [(11, 1, none)])
  (.cond (.s 11) (.seq (.seq (.reg [⟨.mv (.s 7), none⟩,
     ⟨.mv (.r 0), none⟩] [] [] [(5, 1, none)])
   (.drop [1, 2, 3, 7, 8, 10, 11] []))
   (.ret))
   (.seq (.seq (.reg [⟨.bin .eql (.s 10) (.c (.str [97, 117, 105, 112, 99])), none⟩,
     ⟨.mv (.r 0), none⟩] [] [] [(12, 1, none)])
   (.drop [11] []))
   (.cond (.s 12) (.seq (.seq (.reg [⟨.mv (.s 1), none⟩,
      ⟨.mv (.s 7), none⟩,
      ⟨.bin .add (.r 0) (.r 1), none⟩,
      ⟨.mv (.r 2), none⟩] [] [] [(5, 3, none)])
    (.drop [1, 2, 3, 7, 8, 10, 12] []))
    (.ret))
    (.seq (.seq (.seq (.reg [⟨.bin .eql (.s 10) (.c (.str [106, 97, 108])), none⟩,
      ⟨.mv (.r 0), none⟩] [] [] [(13, 1, none)])
    (.drop [7, 12] []))
    (.cond (.s 13) (.skip)
     (.reg [⟨.bin .eql (.s 10) (.c (.str [106, 97, 108, 114])), none⟩,
       ⟨.mv (.r 0), none⟩] [] [] [(13, 1, none)])))
    (.cond (.s 13) (.seq (.seq (.reg [⟨.mv (.s 1), none⟩,
       ⟨.bin .add (.r 0) (.c (.int .u64 4)), none⟩,
       ⟨.mv (.r 1), none⟩] [] [] [(5, 2, none)])
     (.drop [1, 2, 3, 8, 10, 13] []))
     (.ret))
     (.seq (.seq (.seq (.reg [⟨.bin .eql (.s 10) (.c (.str [97, 100, 100])), none⟩,
       ⟨.mv (.r 0), none⟩] [] [] [(14, 1, none)])
     (.drop [1, 13] []))
     (.cond (.s 14) (.skip)
      (.reg [⟨.bin .eql (.s 10) (.c (.str [97, 100, 100, 105])), none⟩,
        ⟨.mv (.r 0), none⟩] [] [] [(14, 1, none)])))
     (.cond (.s 14) (.seq (.seq (.reg [⟨.mv (.s 2), none⟩,
        ⟨.mv (.s 3), none⟩,
        ⟨.bin .add (.r 0) (.r 1), none⟩,
        ⟨.mv (.r 2), none⟩] [] [] [(5, 3, none)])
      (.drop [2, 3, 8, 10, 14] []))
      (.ret))
      (.seq (.seq (.reg [⟨.bin .eql (.s 10) (.c (.str [115, 117, 98])), none⟩,
        ⟨.mv (.r 0), none⟩] [] [] [(15, 1, none)])
      (.drop [14] []))
      (.cond (.s 15) (.seq (.seq (.reg [⟨.mv (.s 2), none⟩,
         ⟨.mv (.s 3), none⟩,
         ⟨.un .xor (.r 1), none⟩,
         ⟨.bin .add (.r 0) (.r 2), none⟩,
         ⟨.bin .add (.r 3) (.c (.int .u64 1)), none⟩,
         ⟨.mv (.r 4), none⟩] [] [] [(5, 5, none)])
       (.drop [2, 3, 8, 10, 15] []))
       (.ret))
       (.seq (.seq (.seq (.reg [⟨.bin .eql (.s 10) (.c (.str [115, 108, 116])), none⟩,
         ⟨.mv (.r 0), none⟩] [] [] [(16, 1, none)])
       (.drop [15] []))
       (.cond (.s 16) (.skip)
        (.reg [⟨.bin .eql (.s 10) (.c (.str [115, 108, 116, 105])), none⟩,
          ⟨.mv (.r 0), none⟩] [] [] [(16, 1, none)])))
       (.cond (.s 16) (.seq (.seq (.reg [⟨.mv (.s 2), none⟩,
          ⟨.mv (.s 3), none⟩,
          ⟨.call .val n_undertowref08_Low [(.r 0), (.r 1)], none⟩,
          ⟨.call .val n_undertowref08_Bool [(.r 2)], none⟩,
          ⟨.mv (.r 3), none⟩] [] [] [(5, 4, none)])
        (.drop [2, 3, 8, 10, 16] []))
        (.ret))
        (.seq (.seq (.seq (.reg [⟨.bin .eql (.s 10) (.c (.str [115, 108, 116, 117])), none⟩,
          ⟨.mv (.r 0), none⟩] [] [] [(17, 1, none)])
        (.drop [16] []))
        (.cond (.s 17) (.skip)
         (.reg [⟨.bin .eql (.s 10) (.c (.str [115, 108, 116, 105, 117])), none⟩,
           ⟨.mv (.r 0), none⟩] [] [] [(17, 1, none)])))
        (.cond (.s 17) (.seq (.seq (.reg [⟨.mv (.s 2), none⟩,
           ⟨.mv (.s 3), none⟩,
           ⟨.bin .lss (.r 0) (.r 1), none⟩,
           ⟨.call .val n_undertowref08_Bool [(.r 2)], none⟩,
           ⟨.mv (.r 3), none⟩] [] [] [(5, 4, none)])
         (.drop [2, 3, 8, 10, 17] []))
         (.ret))
         (.seq (.seq (.seq (.reg [⟨.bin .eql (.s 10) (.c (.str [120, 111, 114])), none⟩,
           ⟨.mv (.r 0), none⟩] [] [] [(18, 1, none)])
         (.drop [17] []))
         (.cond (.s 18) (.skip)
          (.reg [⟨.bin .eql (.s 10) (.c (.str [120, 111, 114, 105])), none⟩,
            ⟨.mv (.r 0), none⟩] [] [] [(18, 1, none)])))
         (.cond (.s 18) (.seq (.seq (.reg [⟨.mv (.s 2), none⟩,
            ⟨.mv (.s 3), none⟩,
            ⟨.bin .or (.r 0) (.r 1), none⟩,
            ⟨.mv (.s 2), none⟩,
            ⟨.mv (.s 3), none⟩,
            ⟨.bin .and (.r 3) (.r 4), none⟩,
            ⟨.bin .sub (.r 2) (.r 5), none⟩,
            ⟨.mv (.r 6), none⟩] [] [] [(5, 7, none)])
          (.drop [2, 3, 8, 10, 18] []))
          (.ret))
          (.seq (.seq (.seq (.reg [⟨.bin .eql (.s 10) (.c (.str [111, 114])), none⟩,
            ⟨.mv (.r 0), none⟩] [] [] [(19, 1, none)])
          (.drop [18] []))
          (.cond (.s 19) (.skip)
           (.reg [⟨.bin .eql (.s 10) (.c (.str [111, 114, 105])), none⟩,
             ⟨.mv (.r 0), none⟩] [] [] [(19, 1, none)])))
          (.cond (.s 19) (.seq (.seq (.reg [⟨.mv (.s 2), none⟩,
             ⟨.mv (.s 3), none⟩,
             ⟨.bin .add (.r 0) (.r 1), none⟩,
             ⟨.mv (.s 2), none⟩,
             ⟨.mv (.s 3), none⟩,
             ⟨.bin .and (.r 3) (.r 4), none⟩,
             ⟨.bin .sub (.r 2) (.r 5), none⟩,
             ⟨.mv (.r 6), none⟩] [] [] [(5, 7, none)])
           (.drop [2, 3, 8, 10, 19] []))
           (.ret))
           (.seq (.seq (.seq (.reg [⟨.bin .eql (.s 10) (.c (.str [97, 110, 100])), none⟩,
             ⟨.mv (.r 0), none⟩] [] [] [(20, 1, none)])
           (.drop [19] []))
           (.cond (.s 20) (.skip)
            (.reg [⟨.bin .eql (.s 10) (.c (.str [97, 110, 100, 105])), none⟩,
              ⟨.mv (.r 0), none⟩] [] [] [(20, 1, none)])))
           (.cond (.s 20) (.seq (.seq (.reg [⟨.mv (.s 2), none⟩,
              ⟨.mv (.s 3), none⟩,
              ⟨.bin .and (.r 0) (.r 1), none⟩,
              ⟨.mv (.r 2), none⟩] [] [] [(5, 3, none)])
            (.drop [2, 3, 8, 10, 20] []))
            (.ret))
            (.seq (.seq (.seq (.reg [⟨.bin .eql (.s 10) (.c (.str [115, 108, 108])), none⟩,
              ⟨.mv (.r 0), none⟩] [] [] [(21, 1, none)])
            (.drop [20] []))
            (.cond (.s 21) (.skip)
             (.reg [⟨.bin .eql (.s 10) (.c (.str [115, 108, 108, 105])), none⟩,
               ⟨.mv (.r 0), none⟩] [] [] [(21, 1, none)])))
            (.cond (.s 21) (.seq (.seq (.reg [⟨.mv (.s 2), none⟩,
               ⟨.mv (.s 3), none⟩,
               ⟨.bin .rem (.r 1) (.c (.int .u64 64)), none⟩,
               ⟨.i2i .i64 (.r 2), none⟩,
               ⟨.call .val n_undertowref08_Left [(.r 0), (.r 3)], none⟩,
               ⟨.mv (.r 4), none⟩] [] [] [(5, 5, none)])
             (.drop [2, 3, 8, 10, 21] []))
             (.ret))
             (.seq (.seq (.seq (.reg [⟨.bin .eql (.s 10) (.c (.str [115, 114, 108])), none⟩,
               ⟨.mv (.r 0), none⟩] [] [] [(22, 1, none)])
             (.drop [21] []))
             (.cond (.s 22) (.skip)
              (.reg [⟨.bin .eql (.s 10) (.c (.str [115, 114, 108, 105])), none⟩,
                ⟨.mv (.r 0), none⟩] [] [] [(22, 1, none)])))
             (.cond (.s 22) (.seq (.seq (.reg [⟨.mv (.s 2), none⟩,
                ⟨.mv (.s 3), none⟩,
                ⟨.bin .rem (.r 1) (.c (.int .u64 64)), none⟩,
                ⟨.i2i .i64 (.r 2), none⟩,
                ⟨.call .val n_undertowref08_Right [(.r 0), (.c (.int .i64 64)), (.r 3), (.c (.int .u64 0))], none⟩,
                ⟨.mv (.r 4), none⟩] [] [] [(5, 5, none)])
              (.drop [2, 3, 8, 10, 22] []))
              (.ret))
              (.seq (.seq (.seq (.reg [⟨.bin .eql (.s 10) (.c (.str [115, 114, 97])), none⟩,
                ⟨.mv (.r 0), none⟩] [] [] [(23, 1, none)])
              (.drop [22] []))
              (.cond (.s 23) (.skip)
               (.reg [⟨.bin .eql (.s 10) (.c (.str [115, 114, 97, 105])), none⟩,
                 ⟨.mv (.r 0), none⟩] [] [] [(23, 1, none)])))
              (.cond (.s 23) (.seq (.seq (.reg [⟨.mv (.s 2), none⟩,
                 ⟨.mv (.s 3), none⟩,
                 ⟨.bin .rem (.r 1) (.c (.int .u64 64)), none⟩,
                 ⟨.i2i .i64 (.r 2), none⟩,
                 ⟨.mv (.s 2), none⟩,
                 ⟨.bin .shr (.r 4) (.c (.int .u64 63)), none⟩,
                 ⟨.call .val n_undertowref08_Right [(.r 0), (.c (.int .i64 64)), (.r 3), (.r 5)], none⟩,
                 ⟨.mv (.r 6), none⟩] [] [] [(5, 7, none)])
               (.drop [2, 3, 8, 10, 23] []))
               (.ret))
               (.seq (.seq (.seq (.reg [⟨.bin .eql (.s 10) (.c (.str [97, 100, 100, 119])), none⟩,
                 ⟨.mv (.r 0), none⟩] [] [] [(24, 1, none)])
               (.drop [23] []))
               (.cond (.s 24) (.skip)
                (.reg [⟨.bin .eql (.s 10) (.c (.str [97, 100, 100, 105, 119])), none⟩,
                  ⟨.mv (.r 0), none⟩] [] [] [(24, 1, none)])))
               (.cond (.s 24) (.seq (.seq (.reg [⟨.mv (.s 2), none⟩,
                  ⟨.mv (.s 3), none⟩,
                  ⟨.bin .add (.r 0) (.r 1), none⟩,
                  ⟨.call .val n_undertowref01_Sext [(.r 2), (.c (.int .i64 32))], none⟩,
                  ⟨.mv (.r 3), none⟩] [] [] [(5, 4, none)])
                (.drop [2, 3, 8, 10, 24] []))
                (.ret))
                (.seq (.seq (.reg [⟨.bin .eql (.s 10) (.c (.str [115, 117, 98, 119])), none⟩,
                  ⟨.mv (.r 0), none⟩] [] [] [(25, 1, none)])
                (.drop [24] []))
                (.cond (.s 25) (.seq (.seq (.reg [⟨.mv (.s 2), none⟩,
                   ⟨.mv (.s 3), none⟩,
                   ⟨.un .xor (.r 1), none⟩,
                   ⟨.bin .add (.r 0) (.r 2), none⟩,
                   ⟨.bin .add (.r 3) (.c (.int .u64 1)), none⟩,
                   ⟨.call .val n_undertowref01_Sext [(.r 4), (.c (.int .i64 32))], none⟩,
                   ⟨.mv (.r 5), none⟩] [] [] [(5, 6, none)])
                 (.drop [2, 3, 8, 10, 25] []))
                 (.ret))
                 (.seq (.seq (.seq (.reg [⟨.bin .eql (.s 10) (.c (.str [115, 108, 108, 119])), none⟩,
                   ⟨.mv (.r 0), none⟩] [] [] [(26, 1, none)])
                 (.drop [25] []))
                 (.cond (.s 26) (.skip)
                  (.reg [⟨.bin .eql (.s 10) (.c (.str [115, 108, 108, 105, 119])), none⟩,
                    ⟨.mv (.r 0), none⟩] [] [] [(26, 1, none)])))
                 (.cond (.s 26) (.seq (.seq (.reg [⟨.mv (.s 2), none⟩,
                    ⟨.mv (.s 3), none⟩,
                    ⟨.bin .rem (.r 1) (.c (.int .u64 32)), none⟩,
                    ⟨.i2i .i64 (.r 2), none⟩,
                    ⟨.call .val n_undertowref08_Left [(.r 0), (.r 3)], none⟩,
                    ⟨.call .val n_undertowref01_Sext [(.r 4), (.c (.int .i64 32))], none⟩,
                    ⟨.mv (.r 5), none⟩] [] [] [(5, 6, none)])
                  (.drop [2, 3, 8, 10, 26] []))
                  (.ret))
                  (.seq (.seq (.seq (.reg [⟨.bin .eql (.s 10) (.c (.str [115, 114, 108, 119])), none⟩,
                    ⟨.mv (.r 0), none⟩] [] [] [(27, 1, none)])
                  (.drop [2, 26] []))
                  (.cond (.s 27) (.skip)
                   (.reg [⟨.bin .eql (.s 10) (.c (.str [115, 114, 108, 105, 119])), none⟩,
                     ⟨.mv (.r 0), none⟩] [] [] [(27, 1, none)])))
                  (.cond (.s 27) (.seq (.seq (.reg [⟨.mv (.s 8), none⟩,
                     ⟨.mv (.s 3), none⟩,
                     ⟨.bin .rem (.r 1) (.c (.int .u64 32)), none⟩,
                     ⟨.i2i .i64 (.r 2), none⟩,
                     ⟨.call .val n_undertowref08_Right [(.r 0), (.c (.int .i64 32)), (.r 3), (.c (.int .u64 0))], none⟩,
                     ⟨.call .val n_undertowref01_Sext [(.r 4), (.c (.int .i64 32))], none⟩,
                     ⟨.mv (.r 5), none⟩] [] [] [(5, 6, none)])
                   (.drop [3, 8, 10, 27] []))
                   (.ret))
                   (.seq (.seq (.seq (.reg [⟨.bin .eql (.s 10) (.c (.str [115, 114, 97, 119])), none⟩,
                     ⟨.mv (.r 0), none⟩] [] [] [(28, 1, none)])
                   (.drop [27] []))
                   (.cond (.s 28) (.skip)
                    (.seq (.reg [⟨.bin .eql (.s 10) (.c (.str [115, 114, 97, 105, 119])), none⟩,
                      ⟨.mv (.r 0), none⟩] [] [] [(28, 1, none)])
                    (.drop [10] []))))
                   (.cond (.s 28) (.seq (.seq (.reg [⟨.mv (.s 8), none⟩,
                      ⟨.mv (.s 3), none⟩,
                      ⟨.bin .rem (.r 1) (.c (.int .u64 32)), none⟩,
                      ⟨.i2i .i64 (.r 2), none⟩,
                      ⟨.mv (.s 8), none⟩,
                      ⟨.bin .shr (.r 4) (.c (.int .u64 31)), none⟩,
                      ⟨.call .val n_undertowref08_Right [(.r 0), (.c (.int .i64 32)), (.r 3), (.r 5)], none⟩,
                      ⟨.call .val n_undertowref01_Sext [(.r 6), (.c (.int .i64 32))], none⟩,
                      ⟨.mv (.r 7), none⟩] [] [] [(5, 8, none)])
                    (.drop [3, 8, 10, 28] []))
                    (.ret))
                    (.skip)))))))))))))))))))))))))))))))))))))))
 (.seq (.seq (.reg [⟨.mv (.c (.int .u64 0)), none⟩] [] [] [(5, 0, none)])
 (.drop [3, 8, 10, 28] []))
 (.ret)))))))⟩
/-- 11: undertow/alu.Taken -/
def h11 : Vm.Hint := ⟨[0, 1, 2, 3, 6, 8, 9, 14, 19, 26, 33, 38], [3], [], [[1, 0], [0, 0], [0, 0], [0, 0, 0, 0], [0, 0], [0, 0, 0, 0], [0, 0], [0, 0, 0, 0, 0, 0], [0, 0], [0, 0, 0, 0, 0, 0], [0, 0], [0, 0, 0, 0], [0, 0], [0, 0, 0, 0], [0]], [([0, 4], []), ([3], [(true, 0)]), ([], []), ([1, 2, 5, 6], []), ([6], []), ([1, 2, 5, 7], []), ([7], []), ([1, 2, 5, 8], []), ([8], []), ([1, 2, 5, 9], []), ([9], []), ([1, 2, 5, 10], []), ([5, 10], []), ([1, 2, 11], []), ([1, 2, 11], [])]⟩
def ir_alu_Taken : Vm.Fn := ⟨[0, 1, 2, 3, 6, 8, 9, 14, 19, 26, 33, 38], 1, 0, [.slot 4],
 .seq (.seq (.reg [⟨.lbox 0 9 (.s 0), none⟩,
   ⟨.mv (.c (.bool false)), none⟩] [(true, 0)] [] [(3, 0, some 1), (4, 1, none)])
 (.drop [0, 4] []))
 (.seq (.seq (.seq (.reg [⟨.off 0 (.s 3), none⟩,
   ⟨.load 0 false 1 (.r 0), none⟩] [] [] [(5, 1, none)])
 (.drop [3] [(true, 0)]))
 (.block 0 (.seq (.reg [⟨.bin .eql (.s 5) (.c (.int .i64 5)), none⟩,
    ⟨.mv (.r 0), none⟩] [] [] [(6, 1, none)])
  (.cond (.s 6) (.seq (.seq (.reg [⟨.mv (.s 1), none⟩,
     ⟨.mv (.s 2), none⟩,
     ⟨.bin .eql (.r 0) (.r 1), none⟩,
     ⟨.mv (.r 2), none⟩] [] [] [(4, 3, none)])
   (.drop [1, 2, 5, 6] []))
   (.ret))
   (.seq (.seq (.reg [⟨.bin .eql (.s 5) (.c (.int .i64 6)), none⟩,
     ⟨.mv (.r 0), none⟩] [] [] [(7, 1, none)])
   (.drop [6] []))
   (.cond (.s 7) (.seq (.seq (.reg [⟨.mv (.s 1), none⟩,
      ⟨.mv (.s 2), none⟩,
      ⟨.bin .neq (.r 0) (.r 1), none⟩,
      ⟨.mv (.r 2), none⟩] [] [] [(4, 3, none)])
    (.drop [1, 2, 5, 7] []))
    (.ret))
    (.seq (.seq (.reg [⟨.bin .eql (.s 5) (.c (.int .i64 7)), none⟩,
      ⟨.mv (.r 0), none⟩] [] [] [(8, 1, none)])
    (.drop [7] []))
    (.cond (.s 8) (.seq (.seq (.reg [⟨.mv (.s 1), none⟩,
       ⟨.i2i .i64 (.r 0), none⟩,
       ⟨.mv (.s 2), none⟩,
       ⟨.i2i .i64 (.r 2), none⟩,
       ⟨.bin .lss (.r 1) (.r 3), none⟩,
       ⟨.mv (.r 4), none⟩] [] [] [(4, 5, none)])
     (.drop [1, 2, 5, 8] []))
     (.ret))
     (.seq (.seq (.reg [⟨.bin .eql (.s 5) (.c (.int .i64 8)), none⟩,
       ⟨.mv (.r 0), none⟩] [] [] [(9, 1, none)])
     (.drop [8] []))
     (.cond (.s 9) (.seq (.seq (.reg [⟨.mv (.s 1), none⟩,
        ⟨.i2i .i64 (.r 0), none⟩,
        ⟨.mv (.s 2), none⟩,
        ⟨.i2i .i64 (.r 2), none⟩,
        ⟨.bin .geq (.r 1) (.r 3), none⟩,
        ⟨.mv (.r 4), none⟩] [] [] [(4, 5, none)])
      (.drop [1, 2, 5, 9] []))
      (.ret))
      (.seq (.seq (.reg [⟨.bin .eql (.s 5) (.c (.int .i64 9)), none⟩,
        ⟨.mv (.r 0), none⟩] [] [] [(10, 1, none)])
      (.drop [9] []))
      (.cond (.s 10) (.seq (.seq (.reg [⟨.mv (.s 1), none⟩,
         ⟨.mv (.s 2), none⟩,
         ⟨.bin .lss (.r 0) (.r 1), none⟩,
         ⟨.mv (.r 2), none⟩] [] [] [(4, 3, none)])
       (.drop [1, 2, 5, 10] []))
       (.ret))
       (.seq (.seq (.reg [⟨.bin .eql (.s 5) (.c (.int .i64 10)), none⟩,
         ⟨.mv (.r 0), none⟩] [] [] [(11, 1, none)])
       (.drop [5, 10] []))
       (.cond (.s 11) (.seq (.seq (.reg [⟨.mv (.s 1), none⟩,
          ⟨.mv (.s 2), none⟩,
          ⟨.bin .geq (.r 0) (.r 1), none⟩,
          ⟨.mv (.r 2), none⟩] [] [] [(4, 3, none)])
        (.drop [1, 2, 11] []))
        (.ret))
        (.skip)))))))))))))))
 (.seq (.seq (.reg [⟨.mv (.c (.bool false)), none⟩] [] [] [(4, 0, none)])
 (.drop [1, 2, 11] []))
 (.ret)))⟩
/-- 12: undertow/undertowref08.Taken -/
def h12 : Vm.Hint := ⟨[0, 1, 2, 3, 6, 9, 10, 15, 20, 25, 31, 36], [3], [], [[1, 0], [0, 0, 0], [0, 0], [0, 0, 0, 0], [0, 0], [0, 0, 0, 0], [0, 0], [0, 0, 0, 0], [0, 0], [0, 0, 0, 0, 0], [0, 0], [0, 0, 0, 0], [0, 0], [0, 0, 0, 0, 0], [0]], [([0, 4], []), ([3], [(true, 0)]), ([], []), ([1, 2, 5, 6], []), ([6], []), ([1, 2, 5, 7], []), ([7], []), ([1, 2, 5, 8], []), ([8], []), ([1, 2, 5, 9], []), ([9], []), ([1, 2, 5, 10], []), ([5, 10], []), ([1, 2, 11], []), ([1, 2, 11], [])]⟩
def ir_undertowref08_Taken : Vm.Fn := ⟨[0, 1, 2, 3, 6, 9, 10, 15, 20, 25, 31, 36], 1, 0, [.slot 4],
 .seq (.seq (.reg [⟨.lbox 0 9 (.s 0), none⟩,
   ⟨.mv (.c (.bool false)), none⟩] [(true, 0)] [] [(3, 0, some 1), (4, 1, none)])
 (.drop [0, 4] []))
 (.seq (.seq (.seq (.reg [⟨.off 0 (.s 3), none⟩,
   ⟨.load 0 false 1 (.r 0), none⟩,
   ⟨.call .val n_undertowref05_Name [(.r 1)], none⟩] [] [] [(5, 2, none)])
 (.drop [3] [(true, 0)]))
 (.block 0 (.seq (.reg [⟨.bin .eql (.s 5) (.c (.str [98, 101, 113])), none⟩,
    ⟨.mv (.r 0), none⟩] [] [] [(6, 1, none)])
  (.cond (.s 6) (.seq (.seq (.reg [⟨.mv (.s 1), none⟩,
     ⟨.mv (.s 2), none⟩,
     ⟨.bin .eql (.r 0) (.r 1), none⟩,
     ⟨.mv (.r 2), none⟩] [] [] [(4, 3, none)])
   (.drop [1, 2, 5, 6] []))
   (.ret))
   (.seq (.seq (.reg [⟨.bin .eql (.s 5) (.c (.str [98, 110, 101])), none⟩,
     ⟨.mv (.r 0), none⟩] [] [] [(7, 1, none)])
   (.drop [6] []))
   (.cond (.s 7) (.seq (.seq (.reg [⟨.mv (.s 1), none⟩,
      ⟨.mv (.s 2), none⟩,
      ⟨.bin .neq (.r 0) (.r 1), none⟩,
      ⟨.mv (.r 2), none⟩] [] [] [(4, 3, none)])
    (.drop [1, 2, 5, 7] []))
    (.ret))
    (.seq (.seq (.reg [⟨.bin .eql (.s 5) (.c (.str [98, 108, 116])), none⟩,
      ⟨.mv (.r 0), none⟩] [] [] [(8, 1, none)])
    (.drop [7] []))
    (.cond (.s 8) (.seq (.seq (.reg [⟨.mv (.s 1), none⟩,
       ⟨.mv (.s 2), none⟩,
       ⟨.call .val n_undertowref08_Low [(.r 0), (.r 1)], none⟩,
       ⟨.mv (.r 2), none⟩] [] [] [(4, 3, none)])
     (.drop [1, 2, 5, 8] []))
     (.ret))
     (.seq (.seq (.reg [⟨.bin .eql (.s 5) (.c (.str [98, 103, 101])), none⟩,
       ⟨.mv (.r 0), none⟩] [] [] [(9, 1, none)])
     (.drop [8] []))
     (.cond (.s 9) (.seq (.seq (.reg [⟨.mv (.s 1), none⟩,
        ⟨.mv (.s 2), none⟩,
        ⟨.call .val n_undertowref08_Low [(.r 0), (.r 1)], none⟩,
        ⟨.un .not (.r 2), none⟩,
        ⟨.mv (.r 3), none⟩] [] [] [(4, 4, none)])
      (.drop [1, 2, 5, 9] []))
      (.ret))
      (.seq (.seq (.reg [⟨.bin .eql (.s 5) (.c (.str [98, 108, 116, 117])), none⟩,
        ⟨.mv (.r 0), none⟩] [] [] [(10, 1, none)])
      (.drop [9] []))
      (.cond (.s 10) (.seq (.seq (.reg [⟨.mv (.s 1), none⟩,
         ⟨.mv (.s 2), none⟩,
         ⟨.bin .lss (.r 0) (.r 1), none⟩,
         ⟨.mv (.r 2), none⟩] [] [] [(4, 3, none)])
       (.drop [1, 2, 5, 10] []))
       (.ret))
       (.seq (.seq (.reg [⟨.bin .eql (.s 5) (.c (.str [98, 103, 101, 117])), none⟩,
         ⟨.mv (.r 0), none⟩] [] [] [(11, 1, none)])
       (.drop [5, 10] []))
       (.cond (.s 11) (.seq (.seq (.reg [⟨.mv (.s 1), none⟩,
          ⟨.mv (.s 2), none⟩,
          ⟨.bin .lss (.r 0) (.r 1), none⟩,
          ⟨.un .not (.r 2), none⟩,
          ⟨.mv (.r 3), none⟩] [] [] [(4, 4, none)])
        (.drop [1, 2, 11] []))
        (.ret))
        (.skip)))))))))))))))
 (.seq (.seq (.reg [⟨.mv (.c (.bool false)), none⟩] [] [] [(4, 0, none)])
 (.drop [1, 2, 11] []))
 (.ret)))⟩
/-- 13: undertow/alu.Next -/
def h13 : Vm.Hint := ⟨[0, 1, 2, 3, 4, 8, 9, 22], [4], [], [[1, 0], [0, 0, 0, 0], [0, 0, 0, 0, 0], [0, 0, 0, 0, 0, 0], [0, 0, 0, 0], [0, 0, 0, 0, 0, 0, 0], [0, 0, 0]], [([0, 5], []), ([], []), ([3], []), ([1, 2, 3, 4, 6], [(true, 0)]), ([3, 6], []), ([1, 2, 4, 7], [(true, 0)]), ([1, 2, 4, 7], [(true, 0)])]⟩
def ir_alu_Next : Vm.Fn := ⟨[0, 1, 2, 3, 4, 8, 9, 22], 1, 0, [.slot 5],
 .seq (.seq (.reg [⟨.lbox 0 9 (.s 0), none⟩,
   ⟨.mv (.c (.int .u64 0)), none⟩] [(true, 0)] [] [(4, 0, some 1), (5, 1, none)])
 (.drop [0, 5] []))
 (.seq (.block 0 (.seq (.seq (.reg [⟨.off 0 (.s 4), none⟩,
    ⟨.load 0 false 1 (.r 0), none⟩,
    ⟨.bin .eql (.r 1) (.c (.int .i64 3)), none⟩,
    ⟨.mv (.r 2), none⟩] [] [] [(6, 3, none)])
  (.cond (.s 6) (.skip)
   (.seq (.reg [⟨.load 0 true 9 (.s 4), none⟩,
     ⟨.mv (.s 2), none⟩,
     ⟨.mv (.s 3), none⟩,
     ⟨.call .val n_alu_Taken [(.r 0), (.r 1), (.r 2)], none⟩,
     ⟨.mv (.r 3), none⟩] [] [] [(6, 4, none)])
   (.drop [3] []))))
  (.cond (.s 6) (.seq (.seq (.reg [⟨.mv (.s 1), none⟩,
     ⟨.off 4 (.s 4), none⟩,
     ⟨.load 0 false 1 (.r 1), none⟩,
     ⟨.i2i .u64 (.r 2), none⟩,
     ⟨.bin .add (.r 0) (.r 3), none⟩,
     ⟨.mv (.r 4), none⟩] [] [] [(5, 5, none)])
   (.drop [1, 2, 3, 4, 6] [(true, 0)]))
   (.ret))
   (.seq (.seq (.reg [⟨.off 0 (.s 4), none⟩,
     ⟨.load 0 false 1 (.r 0), none⟩,
     ⟨.bin .eql (.r 1) (.c (.int .i64 4)), none⟩,
     ⟨.mv (.r 2), none⟩] [] [] [(7, 3, none)])
   (.drop [3, 6] []))
   (.cond (.s 7) (.seq (.seq (.reg [⟨.mv (.s 2), none⟩,
      ⟨.off 4 (.s 4), none⟩,
      ⟨.load 0 false 1 (.r 1), none⟩,
      ⟨.i2i .u64 (.r 2), none⟩,
      ⟨.bin .add (.r 0) (.r 3), none⟩,
      ⟨.bin .andNot (.r 4) (.c (.int .u64 1)), none⟩,
      ⟨.mv (.r 5), none⟩] [] [] [(5, 6, none)])
    (.drop [1, 2, 4, 7] [(true, 0)]))
    (.ret))
    (.skip))))))
 (.seq (.seq (.reg [⟨.mv (.s 1), none⟩,
   ⟨.bin .add (.r 0) (.c (.int .u64 4)), none⟩,
   ⟨.mv (.r 1), none⟩] [] [] [(5, 2, none)])
 (.drop [1, 2, 4, 7] [(true, 0)]))
 (.ret)))⟩
/-- 14: undertow/undertowref08.Next -/
def h14 : Vm.Hint := ⟨[0, 1, 2, 3, 4, 8, 9, 10, 21, 28], [4], [], [[1, 0], [0, 0, 0, 0], [0, 0, 0, 0, 0, 0, 0, 0], [0, 0, 0, 0, 0, 0], [0, 0], [0, 0, 0, 0, 0, 0], [0, 0, 0, 0, 0], [0, 0, 0]], [([0, 5], []), ([], []), ([3], []), ([1, 2, 4, 6, 8], [(true, 0)]), ([6, 8], []), ([1, 2, 4, 9], [(true, 0)]), ([7], []), ([1, 2, 4, 9], [(true, 0)])]⟩
def ir_undertowref08_Next : Vm.Fn := ⟨[0, 1, 2, 3, 4, 8, 9, 10, 21, 28], 1, 0, [.slot 5],
 .seq (.seq (.reg [⟨.lbox 0 9 (.s 0), none⟩,
   ⟨.mv (.c (.int .u64 0)), none⟩] [(true, 0)] [] [(4, 0, some 1), (5, 1, none)])
 (.drop [0, 5] []))
 (.seq (.reg [⟨.off 0 (.s 4), none⟩,
   ⟨.load 0 false 1 (.r 0), none⟩,
   ⟨.call .val n_undertowref05_Name [(.r 1)], none⟩,
   ⟨.mv (.r 2), none⟩] [] [] [(6, 3, none)])
 (.seq (.seq (.seq (.reg [⟨.mv (.s 6), none⟩,
   ⟨.bin .eql (.r 0) (.c (.str [106, 97, 108])), none⟩,
   ⟨.mv (.r 1), none⟩,
   ⟨.load 0 true 9 (.s 4), some (2, false)⟩,
   ⟨.mv (.s 2), some (2, false)⟩,
   ⟨.mv (.s 3), some (2, false)⟩,
   ⟨.call .val n_undertowref08_Taken [(.r 3), (.r 4), (.r 5)], some (2, false)⟩,
   ⟨.pick (.r 2) (.c (.bool true)) (.r 6), none⟩] [] [] [(8, 7, none)])
 (.drop [3] []))
 (.cond (.s 8) (.seq (.seq (.reg [⟨.mv (.s 1), none⟩,
    ⟨.off 4 (.s 4), none⟩,
    ⟨.load 0 false 1 (.r 1), none⟩,
    ⟨.i2i .u64 (.r 2), none⟩,
    ⟨.bin .add (.r 0) (.r 3), none⟩,
    ⟨.mv (.r 4), none⟩] [] [] [(5, 5, none)])
  (.drop [1, 2, 4, 6, 8] [(true, 0)]))
  (.ret))
  (.skip)))
 (.seq (.seq (.seq (.reg [⟨.mv (.s 6), none⟩,
   ⟨.bin .eql (.r 0) (.c (.str [106, 97, 108, 114])), none⟩] [] [] [(9, 1, none)])
 (.drop [6, 8] []))
 (.cond (.s 9) (.seq (.seq (.reg [⟨.mv (.s 2), none⟩,
    ⟨.off 4 (.s 4), none⟩,
    ⟨.load 0 false 1 (.r 1), none⟩,
    ⟨.i2i .u64 (.r 2), none⟩,
    ⟨.bin .add (.r 0) (.r 3), none⟩,
    ⟨.mv (.r 4), none⟩] [] [] [(7, 5, none)])
  (.drop [1, 2, 4, 9] [(true, 0)]))
  (.seq (.seq (.reg [⟨.mv (.s 7), none⟩,
    ⟨.mv (.s 7), none⟩,
    ⟨.bin .rem (.r 1) (.c (.int .u64 2)), none⟩,
    ⟨.bin .sub (.r 0) (.r 2), none⟩,
    ⟨.mv (.r 3), none⟩] [] [] [(5, 4, none)])
  (.drop [7] []))
  (.ret)))
  (.skip)))
 (.seq (.seq (.reg [⟨.mv (.s 1), none⟩,
   ⟨.bin .add (.r 0) (.c (.int .u64 4)), none⟩,
   ⟨.mv (.r 1), none⟩] [] [] [(5, 2, none)])
 (.drop [1, 2, 4, 9] [(true, 0)]))
 (.ret)))))⟩
/-- 15: undertow/alu.Address -/
def h15 : Vm.Hint := ⟨[0, 1, 2, 4, 7, 8, 16], [2], [], [[1, 0], [0, 0, 0], [0, 0], [0, 0], [0, 0, 0, 0, 0, 0], [0, 0], [0, 0], [0, 0], [0, 0], [0]], [([0, 3], []), ([], []), ([], []), ([], []), ([1, 2, 4, 5], [(true, 0)]), ([2, 5], [(true, 0)]), ([], []), ([4], []), ([1, 4, 6], []), ([1, 4, 6], [])]⟩
def ir_alu_Address : Vm.Fn := ⟨[0, 1, 2, 4, 7, 8, 16], 1, 0, [.slot 3],
 .seq (.seq (.reg [⟨.lbox 0 9 (.s 0), none⟩,
   ⟨.mv (.c (.int .u64 0)), none⟩] [(true, 0)] [] [(2, 0, some 1), (3, 1, none)])
 (.drop [0, 3] []))
 (.seq (.seq (.reg [⟨.off 0 (.s 2), none⟩,
   ⟨.load 0 false 1 (.r 0), none⟩,
   ⟨.call .val n_ops_Sort [(.r 1)], none⟩] [] [] [(4, 2, none)])
 (.block 0 (.seq (.seq (.reg [⟨.bin .eql (.s 4) (.c (.int .i64 4)), none⟩,
    ⟨.mv (.r 0), none⟩] [] [] [(5, 1, none)])
  (.cond (.s 5) (.skip)
   (.reg [⟨.bin .eql (.s 4) (.c (.int .i64 5)), none⟩,
     ⟨.mv (.r 0), none⟩] [] [] [(5, 1, none)])))
  (.cond (.s 5) (.seq (.seq (.reg [⟨.mv (.s 1), none⟩,
     ⟨.off 4 (.s 2), none⟩,
     ⟨.load 0 false 1 (.r 1), none⟩,
     ⟨.i2i .u64 (.r 2), none⟩,
     ⟨.bin .add (.r 0) (.r 3), none⟩,
     ⟨.mv (.r 4), none⟩] [] [] [(3, 5, none)])
   (.drop [1, 2, 4, 5] [(true, 0)]))
   (.ret))
   (.seq (.seq (.seq (.reg [⟨.bin .eql (.s 4) (.c (.int .i64 10)), none⟩,
     ⟨.mv (.r 0), none⟩] [] [] [(6, 1, none)])
   (.drop [2, 5] [(true, 0)]))
   (.cond (.s 6) (.skip)
    (.seq (.reg [⟨.bin .eql (.s 4) (.c (.int .i64 11)), none⟩,
      ⟨.mv (.r 0), none⟩] [] [] [(6, 1, none)])
    (.cond (.s 6) (.skip)
     (.seq (.reg [⟨.bin .eql (.s 4) (.c (.int .i64 12)), none⟩,
       ⟨.mv (.r 0), none⟩] [] [] [(6, 1, none)])
     (.drop [4] []))))))
   (.cond (.s 6) (.seq (.seq (.reg [⟨.mv (.s 1), none⟩,
      ⟨.mv (.r 0), none⟩] [] [] [(3, 1, none)])
    (.drop [1, 4, 6] []))
    (.ret))
    (.skip)))))))
 (.seq (.seq (.reg [⟨.mv (.c (.int .u64 0)), none⟩] [] [] [(3, 0, none)])
 (.drop [1, 4, 6] []))
 (.ret)))⟩
/-- 16: undertow/undertowref08.Address -/
def h16 : Vm.Hint := ⟨[0, 1, 2, 4, 5, 14, 21], [2], [], [[1, 0], [0, 0, 0, 0], [0, 0, 0, 0, 0, 0], [0, 0, 0, 0, 0, 0], [0, 0], [0, 0], [0]], [([0, 3], []), ([], []), ([], []), ([1, 2, 4, 5], [(true, 0)]), ([2, 4, 5], [(true, 0)]), ([1, 6], []), ([1, 6], [])]⟩
def ir_undertowref08_Address : Vm.Fn := ⟨[0, 1, 2, 4, 5, 14, 21], 1, 0, [.slot 3],
 .seq (.seq (.reg [⟨.lbox 0 9 (.s 0), none⟩,
   ⟨.mv (.c (.int .u64 0)), none⟩] [(true, 0)] [] [(2, 0, some 1), (3, 1, none)])
 (.drop [0, 3] []))
 (.seq (.reg [⟨.off 0 (.s 2), none⟩,
   ⟨.load 0 false 1 (.r 0), none⟩,
   ⟨.call .val n_undertowref05_Sort [(.r 1)], none⟩,
   ⟨.mv (.r 2), none⟩] [] [] [(4, 3, none)])
 (.seq (.seq (.reg [⟨.mv (.s 4), none⟩,
   ⟨.bin .eql (.r 0) (.c (.int .i64 4)), none⟩,
   ⟨.mv (.r 1), none⟩,
   ⟨.mv (.s 4), some (2, false)⟩,
   ⟨.bin .eql (.r 3) (.c (.int .i64 5)), some (2, false)⟩,
   ⟨.pick (.r 2) (.c (.bool true)) (.r 4), none⟩] [] [] [(5, 5, none)])
 (.cond (.s 5) (.seq (.seq (.reg [⟨.mv (.s 1), none⟩,
    ⟨.off 4 (.s 2), none⟩,
    ⟨.load 0 false 1 (.r 1), none⟩,
    ⟨.i2i .u64 (.r 2), none⟩,
    ⟨.bin .add (.r 0) (.r 3), none⟩,
    ⟨.mv (.r 4), none⟩] [] [] [(3, 5, none)])
  (.drop [1, 2, 4, 5] [(true, 0)]))
  (.ret))
  (.skip)))
 (.seq (.seq (.seq (.reg [⟨.mv (.s 4), none⟩,
   ⟨.bin .geq (.r 0) (.c (.int .i64 10)), none⟩] [] [] [(6, 1, none)])
 (.drop [2, 4, 5] [(true, 0)]))
 (.cond (.s 6) (.seq (.seq (.reg [⟨.mv (.s 1), none⟩,
    ⟨.mv (.r 0), none⟩] [] [] [(3, 1, none)])
  (.drop [1, 6] []))
  (.ret))
  (.skip)))
 (.seq (.seq (.reg [⟨.mv (.c (.int .u64 0)), none⟩] [] [] [(3, 0, none)])
 (.drop [1, 6] []))
 (.ret)))))⟩
/-- 17: undertow/alu.Loaded -/
def h17 : Vm.Hint := ⟨[0, 1, 4, 5, 10, 11, 13, 17], [], [], [[0], [0, 0, 0, 0], [0, 0], [0, 0], [0, 0], [0, 0], [0, 0], [0, 0, 0, 0], [0, 0, 0, 0], [0]], [([2], []), ([], []), ([], []), ([], []), ([0, 5], []), ([4], []), ([0, 4, 5], []), ([1, 3, 7], []), ([1, 3, 4, 6, 7], []), ([1, 3, 4, 6], [])]⟩
def ir_alu_Loaded : Vm.Fn := ⟨[0, 1, 4, 5, 10, 11, 13, 17], 0, 0, [.slot 2],
 .seq (.seq (.reg [⟨.mv (.c (.int .u64 0)), none⟩] [] [] [(2, 0, none)])
 (.drop [2] []))
 (.seq (.reg [⟨.mv (.s 0), none⟩,
   ⟨.call .val n_ops_Size [(.r 0)], none⟩,
   ⟨.bin .mul (.c (.int .i64 8)) (.r 1), none⟩,
   ⟨.mv (.r 2), none⟩] [] [] [(3, 3, none)])
 (.seq (.seq (.reg [⟨.mv (.s 0), none⟩,
   ⟨.call .val n_ops_Sort [(.r 0)], none⟩] [] [] [(4, 1, none)])
 (.block 0 (.seq (.block 2 (.seq (.block 1 (.seq (.seq (.seq (.reg [⟨.bin .eql (.s 4) (.c (.int .i64 4)), none⟩,
      ⟨.mv (.r 0), none⟩] [] [] [(5, 1, none)])
    (.cond (.s 5) (.exit 1)
     (.skip)))
    (.seq (.seq (.seq (.reg [⟨.bin .eql (.s 4) (.c (.int .i64 10)), none⟩,
      ⟨.mv (.r 0), none⟩] [] [] [(6, 1, none)])
    (.drop [0, 5] []))
    (.cond (.s 6) (.skip)
     (.seq (.reg [⟨.bin .eql (.s 4) (.c (.int .i64 12)), none⟩,
       ⟨.mv (.r 0), none⟩] [] [] [(6, 1, none)])
     (.drop [4] []))))
    (.cond (.s 6) (.exit 2)
     (.skip))))
    (.exit 0)))
   (.seq (.seq (.reg [⟨.mv (.s 0), none⟩,
     ⟨.bin .geq (.r 0) (.c (.int .i64 15)), none⟩] [] [] [(7, 1, none)])
   (.drop [0, 4, 5] []))
   (.cond (.s 7) (.seq (.seq (.reg [⟨.mv (.s 1), none⟩,
      ⟨.mv (.s 3), none⟩,
      ⟨.call .val n_word_Zext [(.r 0), (.r 1)], none⟩,
      ⟨.mv (.r 2), none⟩] [] [] [(2, 3, none)])
    (.drop [1, 3, 7] []))
    (.ret))
    (.skip)))))
  (.seq (.seq (.seq (.reg [⟨.mv (.s 1), none⟩,
    ⟨.mv (.s 3), none⟩,
    ⟨.call .val n_word_Sext [(.r 0), (.r 1)], none⟩,
    ⟨.mv (.r 2), none⟩] [] [] [(2, 3, none)])
  (.drop [1, 3, 4, 6, 7] []))
  (.ret))
  (.exit 0)))))
 (.seq (.seq (.reg [⟨.mv (.c (.int .u64 0)), none⟩] [] [] [(2, 0, none)])
 (.drop [1, 3, 4, 6] []))
 (.ret))))⟩
/-- 18: undertow/undertowref08.Loaded -/
def h18 : Vm.Hint := ⟨[0, 1, 4, 5, 6, 7, 19, 30], [], [], [[0], [0, 0, 0], [0, 0, 0, 0, 0, 0, 0, 0, 0, 0], [0], [0, 0, 0], [0, 0, 0, 0], [0, 0, 0, 0, 0, 0], [0, 0, 0, 0], [0, 0, 0, 0]], [([2], []), ([], []), ([3], []), ([0, 1, 6], []), ([6], []), ([0], []), ([4], []), ([1, 5, 7], []), ([1, 5, 7], [])]⟩
def ir_undertowref08_Loaded : Vm.Fn := ⟨[0, 1, 4, 5, 6, 7, 19, 30], 0, 0, [.slot 2],
 .seq (.seq (.reg [⟨.mv (.c (.int .u64 0)), none⟩] [] [] [(2, 0, none)])
 (.drop [2] []))
 (.seq (.reg [⟨.mv (.s 0), none⟩,
   ⟨.call .val n_undertowref05_Sort [(.r 0)], none⟩,
   ⟨.mv (.r 1), none⟩] [] [] [(3, 2, none)])
 (.seq (.seq (.seq (.reg [⟨.mv (.s 3), none⟩,
   ⟨.bin .neq (.r 0) (.c (.int .i64 4)), none⟩,
   ⟨.mv (.r 1), none⟩,
   ⟨.mv (.s 3), some (2, true)⟩,
   ⟨.bin .neq (.r 3) (.c (.int .i64 10)), some (2, true)⟩,
   ⟨.pick (.r 2) (.r 4) (.c (.bool false)), none⟩,
   ⟨.mv (.r 5), none⟩,
   ⟨.mv (.s 3), some (6, true)⟩,
   ⟨.bin .neq (.r 7) (.c (.int .i64 12)), some (6, true)⟩,
   ⟨.pick (.r 6) (.r 8) (.c (.bool false)), none⟩] [] [] [(6, 9, none)])
 (.drop [3] []))
 (.cond (.s 6) (.seq (.seq (.reg [⟨.mv (.c (.int .u64 0)), none⟩] [] [] [(2, 0, none)])
  (.drop [0, 1, 6] []))
  (.ret))
  (.skip)))
 (.seq (.seq (.reg [⟨.mv (.s 0), none⟩,
   ⟨.call .val n_undertowref05_Name [(.r 0)], none⟩,
   ⟨.mv (.r 1), none⟩] [] [] [(4, 2, none)])
 (.drop [6] []))
 (.seq (.seq (.reg [⟨.mv (.s 0), none⟩,
   ⟨.call .val n_undertowref05_Size [(.r 0)], none⟩,
   ⟨.bin .mul (.c (.int .i64 8)) (.r 1), none⟩,
   ⟨.mv (.r 2), none⟩] [] [] [(5, 3, none)])
 (.drop [0] []))
 (.seq (.seq (.seq (.reg [⟨.mv (.s 4), none⟩,
   ⟨.mv (.s 4), none⟩,
   ⟨.len 0 (.r 1), none⟩,
   ⟨.bin .sub (.r 2) (.c (.int .i64 1)), none⟩,
   ⟨.ixS (.r 0) (.r 3), none⟩,
   ⟨.bin .eql (.r 4) (.c (.int .u8 117)), none⟩] [] [] [(7, 5, none)])
 (.drop [4] []))
 (.cond (.s 7) (.seq (.seq (.reg [⟨.mv (.s 1), none⟩,
    ⟨.mv (.s 5), none⟩,
    ⟨.call .val n_undertowref01_Zext [(.r 0), (.r 1)], none⟩,
    ⟨.mv (.r 2), none⟩] [] [] [(2, 3, none)])
  (.drop [1, 5, 7] []))
  (.ret))
  (.skip)))
 (.seq (.seq (.reg [⟨.mv (.s 1), none⟩,
   ⟨.mv (.s 5), none⟩,
   ⟨.call .val n_undertowref01_Sext [(.r 0), (.r 1)], none⟩,
   ⟨.mv (.r 2), none⟩] [] [] [(2, 3, none)])
 (.drop [1, 5, 7] []))
 (.ret)))))))⟩
/-- 19: undertow/alu.Stored -/
def h19 : Vm.Hint := ⟨[0, 1, 2, 6, 7, 12, 13, 19], [], [], [[0], [0, 0, 0, 0], [0, 0], [0, 0], [0, 0], [0, 0, 0, 0], [0, 0], [0, 0, 0, 0, 0, 0, 0, 0, 0, 0, 0, 0], [0]], [([3], []), ([], []), ([], []), ([], []), ([], []), ([0, 1, 2, 4, 5, 6], []), ([5, 6], []), ([0, 1, 2, 4, 7], []), ([0, 1, 2, 4, 7], [])]⟩
def ir_alu_Stored : Vm.Fn := ⟨[0, 1, 2, 6, 7, 12, 13, 19], 0, 0, [.slot 3],
 .seq (.seq (.reg [⟨.mv (.c (.int .u64 0)), none⟩] [] [] [(3, 0, none)])
 (.drop [3] []))
 (.seq (.reg [⟨.mv (.s 0), none⟩,
   ⟨.call .val n_ops_Size [(.r 0)], none⟩,
   ⟨.bin .mul (.c (.int .i64 8)) (.r 1), none⟩,
   ⟨.mv (.r 2), none⟩] [] [] [(4, 3, none)])
 (.seq (.seq (.reg [⟨.mv (.s 0), none⟩,
   ⟨.call .val n_ops_Sort [(.r 0)], none⟩] [] [] [(5, 1, none)])
 (.block 0 (.seq (.seq (.reg [⟨.bin .eql (.s 5) (.c (.int .i64 5)), none⟩,
    ⟨.mv (.r 0), none⟩] [] [] [(6, 1, none)])
  (.cond (.s 6) (.skip)
   (.reg [⟨.bin .eql (.s 5) (.c (.int .i64 11)), none⟩,
     ⟨.mv (.r 0), none⟩] [] [] [(6, 1, none)])))
  (.cond (.s 6) (.seq (.seq (.reg [⟨.mv (.s 2), none⟩,
     ⟨.mv (.s 4), none⟩,
     ⟨.call .val n_word_Zext [(.r 0), (.r 1)], none⟩,
     ⟨.mv (.r 2), none⟩] [] [] [(3, 3, none)])
   (.drop [0, 1, 2, 4, 5, 6] []))
   (.ret))
   (.seq (.seq (.reg [⟨.bin .eql (.s 5) (.c (.int .i64 12)), none⟩,
     ⟨.mv (.r 0), none⟩] [] [] [(7, 1, none)])
   (.drop [5, 6] []))
   (.cond (.s 7) (.seq (.seq (.reg [⟨.mv (.s 0), none⟩,
      ⟨.mv (.s 1), none⟩,
      ⟨.mv (.s 4), none⟩,
      ⟨.call .val n_word_Sext [(.r 1), (.r 2)], none⟩,
      ⟨.mv (.s 2), none⟩,
      ⟨.mv (.s 4), none⟩,
      ⟨.call .val n_word_Sext [(.r 4), (.r 5)], none⟩,
      ⟨.mv (.s 4), none⟩,
      ⟨.call .val n_alu_atomic [(.r 0), (.r 3), (.r 6), (.r 7)], none⟩,
      ⟨.mv (.s 4), none⟩,
      ⟨.call .val n_word_Zext [(.r 8), (.r 9)], none⟩,
      ⟨.mv (.r 10), none⟩] [] [] [(3, 11, none)])
    (.drop [0, 1, 2, 4, 7] []))
    (.ret))
    (.skip)))))))
 (.seq (.seq (.reg [⟨.mv (.c (.int .u64 0)), none⟩] [] [] [(3, 0, none)])
 (.drop [0, 1, 2, 4, 7] []))
 (.ret))))⟩
/-- 20: undertow/undertowref08.Stored -/
def h20 : Vm.Hint := ⟨[0, 1, 2, 6, 7, 8, 9, 10, 11, 12, 13, 14, 25, 30, 50, 51, 56, 65, 70, 79, 83, 85, 89, 91, 95, 97, 101], [], [], [[0], [0, 0, 0], [0, 0, 0, 0], [0, 0, 0, 0, 0, 0], [0, 0, 0, 0], [0, 0], [0], [0, 0, 0, 0, 0, 0, 0, 0], [0, 0, 0, 0, 0, 0, 0, 0], [0, 0], [0, 0, 0], [0, 0, 0, 0, 0], [0, 0], [0, 0, 0, 0], [0, 0], [0, 0, 0, 0, 0, 0, 0, 0], [0, 0], [0, 0, 0, 0], [0, 0], [0, 0, 0, 0, 0, 0, 0, 0], [0, 0], [0, 0, 0], [0, 0], [0, 0], [0, 0, 0], [0, 0], [0, 0], [0, 0, 0], [0, 0], [0, 0], [0, 0, 0], [0, 0], [0, 0, 0, 0]], [([3], []), ([], []), ([], []), ([], []), ([0, 1, 2, 4, 5, 12], []), ([4, 12], []), ([0, 1, 2, 5, 13], []), ([13], []), ([1, 2], []), ([], []), ([0], []), ([11], []), ([], []), ([6, 7, 8, 9, 14, 15], []), ([15], []), ([6, 7, 8, 9, 14, 16], []), ([16], []), ([6, 7, 8, 9, 14, 17], []), ([17], []), ([6, 7, 8, 9, 14, 18], []), ([18], []), ([7, 8, 9, 14, 19], []), ([6, 20], []), ([19], []), ([7, 8, 9, 14, 21], []), ([6, 22], []), ([6, 7, 21], []), ([9, 14, 23], []), ([8, 24], []), ([14, 23], []), ([9, 25], []), ([8, 26], []), ([5, 6, 8, 9, 10, 20, 22, 24, 25, 26], [])]⟩
def ir_undertowref08_Stored : Vm.Fn := ⟨[0, 1, 2, 6, 7, 8, 9, 10, 11, 12, 13, 14, 25, 30, 50, 51, 56, 65, 70, 79, 83, 85, 89, 91, 95, 97, 101], 0, 0, [.slot 3],
 .seq (.seq (.reg [⟨.mv (.c (.int .u64 0)), none⟩] [] [] [(3, 0, none)])
 (.drop [3] []))
 (.seq (.reg [⟨.mv (.s 0), none⟩,
   ⟨.call .val n_undertowref05_Sort [(.r 0)], none⟩,
   ⟨.mv (.r 1), none⟩] [] [] [(4, 2, none)])
 (.seq (.reg [⟨.mv (.s 0), none⟩,
   ⟨.call .val n_undertowref05_Size [(.r 0)], none⟩,
   ⟨.bin .mul (.c (.int .i64 8)) (.r 1), none⟩,
   ⟨.mv (.r 2), none⟩] [] [] [(5, 3, none)])
 (.seq (.seq (.reg [⟨.mv (.s 4), none⟩,
   ⟨.bin .eql (.r 0) (.c (.int .i64 5)), none⟩,
   ⟨.mv (.r 1), none⟩,
   ⟨.mv (.s 4), some (2, false)⟩,
   ⟨.bin .eql (.r 3) (.c (.int .i64 11)), some (2, false)⟩,
   ⟨.pick (.r 2) (.c (.bool true)) (.r 4), none⟩] [] [] [(12, 5, none)])
 (.cond (.s 12) (.seq (.seq (.reg [⟨.mv (.s 2), none⟩,
    ⟨.mv (.s 5), none⟩,
    ⟨.call .val n_undertowref01_Zext [(.r 0), (.r 1)], none⟩,
    ⟨.mv (.r 2), none⟩] [] [] [(3, 3, none)])
  (.drop [0, 1, 2, 4, 5, 12] []))
  (.ret))
  (.skip)))
 (.seq (.seq (.seq (.reg [⟨.mv (.s 4), none⟩,
   ⟨.bin .neq (.r 0) (.c (.int .i64 12)), none⟩] [] [] [(13, 1, none)])
 (.drop [4, 12] []))
 (.cond (.s 13) (.seq (.seq (.reg [⟨.mv (.c (.int .u64 0)), none⟩] [] [] [(3, 0, none)])
  (.drop [0, 1, 2, 5, 13] []))
  (.ret))
  (.skip)))
 (.seq (.seq (.reg [⟨.mv (.s 1), none⟩,
   ⟨.mv (.s 5), none⟩,
   ⟨.call .val n_undertowref01_Sext [(.r 0), (.r 1)], none⟩,
   ⟨.mv (.s 2), none⟩,
   ⟨.mv (.s 5), none⟩,
   ⟨.call .val n_undertowref01_Sext [(.r 3), (.r 4)], none⟩,
   ⟨.mv (.r 2), none⟩,
   ⟨.mv (.r 5), none⟩] [] [] [(6, 6, none), (7, 7, none)])
 (.drop [13] []))
 (.seq (.seq (.reg [⟨.mv (.s 1), none⟩,
   ⟨.mv (.s 5), none⟩,
   ⟨.call .val n_undertowref01_Zext [(.r 0), (.r 1)], none⟩,
   ⟨.mv (.s 2), none⟩,
   ⟨.mv (.s 5), none⟩,
   ⟨.call .val n_undertowref01_Zext [(.r 3), (.r 4)], none⟩,
   ⟨.mv (.r 2), none⟩,
   ⟨.mv (.r 5), none⟩] [] [] [(8, 6, none), (9, 7, none)])
 (.drop [1, 2] []))
 (.seq (.reg [⟨.mv (.s 7), none⟩,
   ⟨.mv (.r 0), none⟩] [] [] [(10, 1, none)])
 (.seq (.seq (.reg [⟨.mv (.s 0), none⟩,
   ⟨.call .val n_undertowref05_Name [(.r 0)], none⟩,
   ⟨.mv (.r 1), none⟩] [] [] [(11, 2, none)])
 (.drop [0] []))
 (.seq (.seq (.seq (.reg [⟨.mv (.s 11), none⟩,
   ⟨.mv (.s 11), none⟩,
   ⟨.len 0 (.r 1), none⟩,
   ⟨.bin .sub (.r 2) (.c (.int .i64 2)), none⟩,
   ⟨.slc 0 (.r 0) (some (.c (.int .i64 3))) (some (.r 3)) none, none⟩] [] [] [(14, 4, none)])
 (.drop [11] []))
 (.block 0 (.seq (.reg [⟨.bin .eql (.s 14) (.c (.str [97, 100, 100])), none⟩,
    ⟨.mv (.r 0), none⟩] [] [] [(15, 1, none)])
  (.cond (.s 15) (.seq (.reg [⟨.mv (.s 6), none⟩,
     ⟨.mv (.s 7), none⟩,
     ⟨.bin .add (.r 0) (.r 1), none⟩,
     ⟨.mv (.r 2), none⟩] [] [] [(10, 3, none)])
   (.drop [6, 7, 8, 9, 14, 15] []))
   (.seq (.seq (.reg [⟨.bin .eql (.s 14) (.c (.str [120, 111, 114])), none⟩,
     ⟨.mv (.r 0), none⟩] [] [] [(16, 1, none)])
   (.drop [15] []))
   (.cond (.s 16) (.seq (.reg [⟨.mv (.s 6), none⟩,
      ⟨.mv (.s 7), none⟩,
      ⟨.bin .or (.r 0) (.r 1), none⟩,
      ⟨.mv (.s 6), none⟩,
      ⟨.mv (.s 7), none⟩,
      ⟨.bin .and (.r 3) (.r 4), none⟩,
      ⟨.bin .sub (.r 2) (.r 5), none⟩,
      ⟨.mv (.r 6), none⟩] [] [] [(10, 7, none)])
    (.drop [6, 7, 8, 9, 14, 16] []))
    (.seq (.seq (.reg [⟨.bin .eql (.s 14) (.c (.str [97, 110, 100])), none⟩,
      ⟨.mv (.r 0), none⟩] [] [] [(17, 1, none)])
    (.drop [16] []))
    (.cond (.s 17) (.seq (.reg [⟨.mv (.s 6), none⟩,
       ⟨.mv (.s 7), none⟩,
       ⟨.bin .and (.r 0) (.r 1), none⟩,
       ⟨.mv (.r 2), none⟩] [] [] [(10, 3, none)])
     (.drop [6, 7, 8, 9, 14, 17] []))
     (.seq (.seq (.reg [⟨.bin .eql (.s 14) (.c (.str [111, 114])), none⟩,
       ⟨.mv (.r 0), none⟩] [] [] [(18, 1, none)])
     (.drop [17] []))
     (.cond (.s 18) (.seq (.reg [⟨.mv (.s 6), none⟩,
        ⟨.mv (.s 7), none⟩,
        ⟨.bin .add (.r 0) (.r 1), none⟩,
        ⟨.mv (.s 6), none⟩,
        ⟨.mv (.s 7), none⟩,
        ⟨.bin .and (.r 3) (.r 4), none⟩,
        ⟨.bin .sub (.r 2) (.r 5), none⟩,
        ⟨.mv (.r 6), none⟩] [] [] [(10, 7, none)])
      (.drop [6, 7, 8, 9, 14, 18] []))
      (.seq (.seq (.reg [⟨.bin .eql (.s 14) (.c (.str [109, 105, 110])), none⟩,
        ⟨.mv (.r 0), none⟩] [] [] [(19, 1, none)])
      (.drop [18] []))
      (.cond (.s 19) (.seq (.seq (.reg [⟨.mv (.s 6), none⟩,
         ⟨.mv (.s 7), none⟩,
         ⟨.call .val n_undertowref08_Low [(.r 0), (.r 1)], none⟩] [] [] [(20, 2, none)])
       (.drop [7, 8, 9, 14, 19] []))
       (.cond (.s 20) (.seq (.reg [⟨.mv (.s 6), none⟩,
          ⟨.mv (.r 0), none⟩] [] [] [(10, 1, none)])
        (.drop [6, 20] []))
        (.skip)))
       (.seq (.seq (.reg [⟨.bin .eql (.s 14) (.c (.str [109, 97, 120])), none⟩,
         ⟨.mv (.r 0), none⟩] [] [] [(21, 1, none)])
       (.drop [19] []))
       (.cond (.s 21) (.seq (.seq (.reg [⟨.mv (.s 7), none⟩,
          ⟨.mv (.s 6), none⟩,
          ⟨.call .val n_undertowref08_Low [(.r 0), (.r 1)], none⟩] [] [] [(22, 2, none)])
        (.drop [7, 8, 9, 14, 21] []))
        (.cond (.s 22) (.seq (.reg [⟨.mv (.s 6), none⟩,
           ⟨.mv (.r 0), none⟩] [] [] [(10, 1, none)])
         (.drop [6, 22] []))
         (.skip)))
        (.seq (.seq (.reg [⟨.bin .eql (.s 14) (.c (.str [109, 105, 110, 117])), none⟩,
          ⟨.mv (.r 0), none⟩] [] [] [(23, 1, none)])
        (.drop [6, 7, 21] []))
        (.cond (.s 23) (.seq (.seq (.reg [⟨.mv (.s 8), none⟩,
           ⟨.mv (.s 9), none⟩,
           ⟨.bin .lss (.r 0) (.r 1), none⟩] [] [] [(24, 2, none)])
         (.drop [9, 14, 23] []))
         (.cond (.s 24) (.seq (.reg [⟨.mv (.s 8), none⟩,
            ⟨.mv (.r 0), none⟩] [] [] [(10, 1, none)])
          (.drop [8, 24] []))
          (.skip)))
         (.seq (.seq (.reg [⟨.bin .eql (.s 14) (.c (.str [109, 97, 120, 117])), none⟩,
           ⟨.mv (.r 0), none⟩] [] [] [(25, 1, none)])
         (.drop [14, 23] []))
         (.cond (.s 25) (.seq (.seq (.reg [⟨.mv (.s 9), none⟩,
            ⟨.mv (.s 8), none⟩,
            ⟨.bin .lss (.r 0) (.r 1), none⟩] [] [] [(26, 2, none)])
          (.drop [9, 25] []))
          (.cond (.s 26) (.seq (.reg [⟨.mv (.s 8), none⟩,
             ⟨.mv (.r 0), none⟩] [] [] [(10, 1, none)])
           (.drop [8, 26] []))
           (.skip)))
          (.skip)))))))))))))))))))
 (.seq (.seq (.reg [⟨.mv (.s 10), none⟩,
   ⟨.mv (.s 5), none⟩,
   ⟨.call .val n_undertowref01_Zext [(.r 0), (.r 1)], none⟩,
   ⟨.mv (.r 2), none⟩] [] [] [(3, 3, none)])
 (.drop [5, 6, 8, 9, 10, 20, 22, 24, 25, 26] []))
 (.ret)))))))))))⟩
/-- 21: undertow/undertowref01.Zext -/
def h21 : Vm.Hint := ⟨[0, 1, 4, 5, 6, 13, 21], [], [], [[0], [0], [0], [0, 0, 0, 0, 0, 0, 0], [0, 0, 0], [0, 0, 0, 0, 0, 0], [0, 0, 0, 0, 0, 0], [0, 0]], []⟩
def ir_undertowref01_Zextl0 : C :=
 .seq (.seq (.reg [⟨.mv (.s 4), none⟩,
   ⟨.bin .lss (.r 0) (.c (.int .i64 64)), none⟩,
   ⟨.mv (.r 1), none⟩,
   ⟨.mv (.s 4), some (2, true)⟩,
   ⟨.mv (.s 1), some (2, true)⟩,
   ⟨.bin .lss (.r 3) (.r 4), some (2, true)⟩,
   ⟨.pick (.r 2) (.r 5) (.c (.bool false)), none⟩] [] [] [(5, 6, none)])
 (.cond (.s 5) (.skip)
  (.exit 0)))
 (.seq (.block 1 (.seq (.reg [⟨.mv (.s 0), none⟩,
    ⟨.mv (.s 4), none⟩,
    ⟨.i2i .u64 (.r 1), none⟩,
    ⟨.bin .shr (.r 0) (.r 2), none⟩,
    ⟨.bin .and (.r 3) (.c (.int .u64 1)), none⟩,
    ⟨.bin .eql (.r 4) (.c (.int .u64 1)), none⟩] [] [] [(6, 5, none)])
  (.cond (.s 6) (.reg [⟨.mv (.s 3), none⟩,
     ⟨.mv (.s 4), none⟩,
     ⟨.i2i .u64 (.r 1), none⟩,
     ⟨.bin .shl (.c (.int .u64 1)) (.r 2), none⟩,
     ⟨.bin .add (.r 0) (.r 3), none⟩,
     ⟨.mv (.r 4), none⟩] [] [] [(3, 5, none)])
   (.skip))))
 (.reg [⟨.mv (.s 4), none⟩,
   ⟨.bin .add (.r 0) (.c (.int .i64 1)), none⟩,
   ⟨.mv (.r 1), none⟩] [] [] [(4, 2, none)]))
def ir_undertowref01_Zext : Vm.Fn := ⟨[0, 1, 4, 5, 6, 13, 21], 0, 0, [.slot 2],
 .seq (.reg [⟨.mv (.c (.int .u64 0)), none⟩] [] [] [(2, 0, none)])
 (.seq (.reg [⟨.mv (.c (.int .u64 0)), none⟩] [] [] [(3, 0, none)])
 (.seq (.seq (.reg [⟨.mv (.c (.int .i64 0)), none⟩] [] [] [(4, 0, none)])
 (.block 0 (.loop ir_undertowref01_Zextl0)))
 (.seq (.reg [⟨.mv (.s 3), none⟩,
   ⟨.mv (.r 0), none⟩] [] [] [(2, 1, none)])
 (.ret))))⟩
/-- 22: undertow/undertowref05.Size -/
def h22 : Vm.Hint := ⟨[0, 2, 3, 4, 5, 19, 26, 32, 33, 35, 37], [], [], [[0], [0, 0, 0], [0, 0, 0], [0, 0, 0, 0, 0, 0, 0, 0, 0, 0], [0], [0, 0, 0, 0, 0, 0], [0, 0], [0, 0, 0, 0, 0, 0], [0], [0, 0], [0], [0, 0], [0], [0, 0], [0], [0]], []⟩
def ir_undertowref05_Size : Vm.Fn := ⟨[0, 2, 3, 4, 5, 19, 26, 32, 33, 35, 37], 0, 0, [.slot 1],
 .seq (.reg [⟨.mv (.c (.int .i64 0)), none⟩] [] [] [(1, 0, none)])
 (.seq (.reg [⟨.mv (.s 0), none⟩,
   ⟨.call .val n_undertowref05_Name [(.r 0)], none⟩,
   ⟨.mv (.r 1), none⟩] [] [] [(2, 2, none)])
 (.seq (.reg [⟨.mv (.s 0), none⟩,
   ⟨.call .val n_undertowref05_Sort [(.r 0)], none⟩,
   ⟨.mv (.r 1), none⟩] [] [] [(3, 2, none)])
 (.seq (.seq (.reg [⟨.mv (.s 3), none⟩,
   ⟨.bin .lss (.r 0) (.c (.int .i64 4)), none⟩,
   ⟨.mv (.r 1), none⟩,
   ⟨.mv (.s 3), some (2, false)⟩,
   ⟨.bin .gtr (.r 3) (.c (.int .i64 5)), some (2, false)⟩,
   ⟨.mv (.r 4), some (2, false)⟩,
   ⟨.mv (.s 3), some (5, true)⟩,
   ⟨.bin .lss (.r 6) (.c (.int .i64 10)), some (5, true)⟩,
   ⟨.pick (.r 5) (.r 7) (.c (.bool false)), some (2, false)⟩,
   ⟨.pick (.r 2) (.c (.bool true)) (.r 8), none⟩] [] [] [(5, 9, none)])
 (.cond (.s 5) (.seq (.reg [⟨.mv (.c (.int .i64 0)), none⟩] [] [] [(1, 0, none)])
  (.ret))
  (.skip)))
 (.seq (.reg [⟨.mv (.s 2), none⟩,
   ⟨.mv (.s 2), none⟩,
   ⟨.len 0 (.r 1), none⟩,
   ⟨.bin .sub (.r 2) (.c (.int .i64 1)), none⟩,
   ⟨.ixS (.r 0) (.r 3), none⟩,
   ⟨.mv (.r 4), none⟩] [] [] [(4, 5, none)])
 (.seq (.seq (.reg [⟨.mv (.s 4), none⟩,
   ⟨.bin .eql (.r 0) (.c (.int .u8 117)), none⟩] [] [] [(6, 1, none)])
 (.cond (.s 6) (.reg [⟨.mv (.s 2), none⟩,
    ⟨.mv (.s 2), none⟩,
    ⟨.len 0 (.r 1), none⟩,
    ⟨.bin .sub (.r 2) (.c (.int .i64 2)), none⟩,
    ⟨.ixS (.r 0) (.r 3), none⟩,
    ⟨.mv (.r 4), none⟩] [] [] [(4, 5, none)])
  (.skip)))
 (.seq (.seq (.reg [⟨.mv (.s 4), none⟩] [] [] [(7, 0, none)])
 (.block 0 (.seq (.reg [⟨.bin .eql (.s 7) (.c (.int .u8 98)), none⟩,
    ⟨.mv (.r 0), none⟩] [] [] [(8, 1, none)])
  (.cond (.s 8) (.seq (.reg [⟨.mv (.c (.int .i64 1)), none⟩] [] [] [(1, 0, none)])
   (.ret))
   (.seq (.reg [⟨.bin .eql (.s 7) (.c (.int .u8 104)), none⟩,
     ⟨.mv (.r 0), none⟩] [] [] [(9, 1, none)])
   (.cond (.s 9) (.seq (.reg [⟨.mv (.c (.int .i64 2)), none⟩] [] [] [(1, 0, none)])
    (.ret))
    (.seq (.reg [⟨.bin .eql (.s 7) (.c (.int .u8 119)), none⟩,
      ⟨.mv (.r 0), none⟩] [] [] [(10, 1, none)])
    (.cond (.s 10) (.seq (.reg [⟨.mv (.c (.int .i64 4)), none⟩] [] [] [(1, 0, none)])
     (.ret))
     (.skip)))))))))
 (.seq (.reg [⟨.mv (.c (.int .i64 8)), none⟩] [] [] [(1, 0, none)])
 (.ret))))))))⟩
/-- 23: undertow/alu.Where -/
def h23 : Vm.Hint := ⟨[0, 1, 2, 6, 7, 11, 14, 19], [], [], [[0], [0, 0, 0, 0], [0, 0, 0], [0], [0, 0, 0, 0, 0], [0], [0, 0, 0, 0, 0, 0, 0, 0, 0, 0, 0, 0, 0], [0], [0]], [([3], []), ([0], []), ([], []), ([1, 2, 4, 5], []), ([5], []), ([1, 2, 4, 6], []), ([1, 2, 4, 6], []), ([7], []), ([7], [])]⟩
def ir_alu_Where : Vm.Fn := ⟨[0, 1, 2, 6, 7, 11, 14, 19], 0, 0, [.slot 3],
 .seq (.seq (.reg [⟨.mv (.c (.int .i64 0)), none⟩] [] [] [(3, 0, none)])
 (.drop [3] []))
 (.seq (.seq (.reg [⟨.mv (.s 0), none⟩,
   ⟨.call .val n_ops_Size [(.r 0)], none⟩,
   ⟨.i2i .u64 (.r 1), none⟩,
   ⟨.mv (.r 2), none⟩] [] [] [(4, 3, none)])
 (.drop [0] []))
 (.seq (.block 0 (.seq (.reg [⟨.mv (.s 4), none⟩,
    ⟨.bin .eql (.r 0) (.c (.int .u64 0)), none⟩,
    ⟨.mv (.r 1), none⟩] [] [] [(5, 2, none)])
  (.cond (.s 5) (.seq (.seq (.reg [⟨.mv (.c (.int .i64 0)), none⟩] [] [] [(3, 0, none)])
   (.drop [1, 2, 4, 5] []))
   (.ret))
   (.seq (.seq (.reg [⟨.mv (.s 1), none⟩,
     ⟨.mv (.s 4), none⟩,
     ⟨.bin .rem (.r 0) (.r 1), none⟩,
     ⟨.bin .neq (.r 2) (.c (.int .u64 0)), none⟩,
     ⟨.mv (.r 3), none⟩] [] [] [(6, 4, none)])
   (.drop [5] []))
   (.cond (.s 6) (.seq (.seq (.reg [⟨.mv (.c (.int .i64 4)), none⟩] [] [] [(3, 0, none)])
    (.drop [1, 2, 4, 6] []))
    (.ret))
    (.seq (.seq (.reg [⟨.mv (.s 2), none⟩,
      ⟨.mv (.s 4), none⟩,
      ⟨.i2i .i64 (.r 1), none⟩,
      ⟨.bin .lss (.r 0) (.r 2), none⟩,
      ⟨.mv (.r 3), none⟩,
      ⟨.mv (.s 1), some (4, false)⟩,
      ⟨.mv (.s 2), some (4, false)⟩,
      ⟨.i2i .u64 (.r 6), some (4, false)⟩,
      ⟨.mv (.s 4), some (4, false)⟩,
      ⟨.bin .sub (.r 7) (.r 8), some (4, false)⟩,
      ⟨.bin .gtr (.r 5) (.r 9), some (4, false)⟩,
      ⟨.pick (.r 4) (.c (.bool true)) (.r 10), none⟩,
      ⟨.mv (.r 11), none⟩] [] [] [(7, 12, none)])
    (.drop [1, 2, 4, 6] []))
    (.cond (.s 7) (.seq (.seq (.reg [⟨.mv (.c (.int .i64 3)), none⟩] [] [] [(3, 0, none)])
     (.drop [7] []))
     (.ret))
     (.skip))))))))
 (.seq (.seq (.reg [⟨.mv (.c (.int .i64 0)), none⟩] [] [] [(3, 0, none)])
 (.drop [7] []))
 (.ret))))⟩
/-- 24: undertow/ops.Sort -/
def h24 : Vm.Hint := ⟨[0, 2, 3, 10, 13, 16, 19, 22, 25, 28, 31, 34, 37, 40], [], [], [[0], [0, 0, 0, 0, 0, 0, 0], [0], [0, 0, 0], [0], [0, 0, 0], [0], [0, 0, 0], [0], [0, 0, 0], [0], [0, 0, 0], [0], [0, 0, 0], [0], [0, 0, 0], [0], [0, 0, 0], [0], [0, 0, 0], [0], [0, 0, 0], [0], [0, 0, 0], [0], [0]], []⟩
def ir_ops_Sort : Vm.Fn := ⟨[0, 2, 3, 10, 13, 16, 19, 22, 25, 28, 31, 34, 37, 40], 0, 0, [.slot 1],
 .seq (.reg [⟨.mv (.c (.int .i64 0)), none⟩] [] [] [(1, 0, none)])
 (.seq (.block 0 (.seq (.reg [⟨.mv (.s 0), none⟩,
    ⟨.bin .lss (.r 0) (.c (.int .i64 1)), none⟩,
    ⟨.mv (.r 1), none⟩,
    ⟨.mv (.s 0), some (2, false)⟩,
    ⟨.bin .gtr (.r 3) (.c (.int .i64 75)), some (2, false)⟩,
    ⟨.pick (.r 2) (.c (.bool true)) (.r 4), none⟩,
    ⟨.mv (.r 5), none⟩] [] [] [(2, 6, none)])
  (.cond (.s 2) (.seq (.reg [⟨.mv (.c (.int .i64 0)), none⟩] [] [] [(1, 0, none)])
   (.ret))
   (.seq (.reg [⟨.mv (.s 0), none⟩,
     ⟨.bin .leq (.r 0) (.c (.int .i64 2)), none⟩,
     ⟨.mv (.r 1), none⟩] [] [] [(3, 2, none)])
   (.cond (.s 3) (.seq (.reg [⟨.mv (.c (.int .i64 1)), none⟩] [] [] [(1, 0, none)])
    (.ret))
    (.seq (.reg [⟨.mv (.s 0), none⟩,
      ⟨.bin .leq (.r 0) (.c (.int .i64 4)), none⟩,
      ⟨.mv (.r 1), none⟩] [] [] [(4, 2, none)])
    (.cond (.s 4) (.seq (.reg [⟨.mv (.c (.int .i64 2)), none⟩] [] [] [(1, 0, none)])
     (.ret))
     (.seq (.reg [⟨.mv (.s 0), none⟩,
       ⟨.bin .leq (.r 0) (.c (.int .i64 10)), none⟩,
       ⟨.mv (.r 1), none⟩] [] [] [(5, 2, none)])
     (.cond (.s 5) (.seq (.reg [⟨.mv (.c (.int .i64 3)), none⟩] [] [] [(1, 0, none)])
      (.ret))
      (.seq (.reg [⟨.mv (.s 0), none⟩,
        ⟨.bin .leq (.r 0) (.c (.int .i64 17)), none⟩,
        ⟨.mv (.r 1), none⟩] [] [] [(6, 2, none)])
      (.cond (.s 6) (.seq (.reg [⟨.mv (.c (.int .i64 4)), none⟩] [] [] [(1, 0, none)])
       (.ret))
       (.seq (.reg [⟨.mv (.s 0), none⟩,
         ⟨.bin .leq (.r 0) (.c (.int .i64 21)), none⟩,
         ⟨.mv (.r 1), none⟩] [] [] [(7, 2, none)])
       (.cond (.s 7) (.seq (.reg [⟨.mv (.c (.int .i64 5)), none⟩] [] [] [(1, 0, none)])
        (.ret))
        (.seq (.reg [⟨.mv (.s 0), none⟩,
          ⟨.bin .leq (.r 0) (.c (.int .i64 34)), none⟩,
          ⟨.mv (.r 1), none⟩] [] [] [(8, 2, none)])
        (.cond (.s 8) (.seq (.reg [⟨.mv (.c (.int .i64 6)), none⟩] [] [] [(1, 0, none)])
         (.ret))
         (.seq (.reg [⟨.mv (.s 0), none⟩,
           ⟨.bin .leq (.r 0) (.c (.int .i64 49)), none⟩,
           ⟨.mv (.r 1), none⟩] [] [] [(9, 2, none)])
         (.cond (.s 9) (.seq (.reg [⟨.mv (.c (.int .i64 7)), none⟩] [] [] [(1, 0, none)])
          (.ret))
          (.seq (.reg [⟨.mv (.s 0), none⟩,
            ⟨.bin .leq (.r 0) (.c (.int .i64 51)), none⟩,
            ⟨.mv (.r 1), none⟩] [] [] [(10, 2, none)])
          (.cond (.s 10) (.seq (.reg [⟨.mv (.c (.int .i64 8)), none⟩] [] [] [(1, 0, none)])
           (.ret))
           (.seq (.reg [⟨.mv (.s 0), none⟩,
             ⟨.bin .leq (.r 0) (.c (.int .i64 53)), none⟩,
             ⟨.mv (.r 1), none⟩] [] [] [(11, 2, none)])
           (.cond (.s 11) (.seq (.reg [⟨.mv (.c (.int .i64 9)), none⟩] [] [] [(1, 0, none)])
            (.ret))
            (.seq (.reg [⟨.mv (.s 0), none⟩,
              ⟨.bin .leq (.r 0) (.c (.int .i64 55)), none⟩,
              ⟨.mv (.r 1), none⟩] [] [] [(12, 2, none)])
            (.cond (.s 12) (.seq (.reg [⟨.mv (.c (.int .i64 10)), none⟩] [] [] [(1, 0, none)])
             (.ret))
             (.seq (.reg [⟨.mv (.s 0), none⟩,
               ⟨.bin .leq (.r 0) (.c (.int .i64 57)), none⟩,
               ⟨.mv (.r 1), none⟩] [] [] [(13, 2, none)])
             (.cond (.s 13) (.seq (.reg [⟨.mv (.c (.int .i64 11)), none⟩] [] [] [(1, 0, none)])
              (.ret))
              (.skip))))))))))))))))))))))))))
 (.seq (.reg [⟨.mv (.c (.int .i64 12)), none⟩] [] [] [(1, 0, none)])
 (.ret)))⟩
/-- 25: undertow/alu.pair -/
def h25 : Vm.Hint := ⟨[0, 1, 2, 6, 7, 8, 13, 18, 24, 32, 38, 43, 49, 57, 62, 67, 73, 79, 86, 94], [], [], [[0], [0], [0, 0], [0, 0, 0, 0], [0, 0], [0, 0, 0, 0], [0, 0], [0, 0, 0, 0, 0], [0, 0], [0, 0, 0, 0, 0, 0, 0], [0, 0], [0, 0, 0, 0, 0], [0, 0], [0, 0, 0, 0], [0, 0], [0, 0, 0, 0, 0], [0, 0], [0, 0, 0, 0, 0, 0, 0], [0, 0], [0, 0, 0, 0], [0, 0], [0, 0, 0, 0], [0, 0], [0, 0, 0, 0, 0], [0, 0], [0, 0, 0, 0, 0], [0, 0], [0, 0, 0, 0, 0, 0], [0, 0], [0, 0, 0, 0, 0, 0, 0], [0, 0], [0, 0, 0, 0, 0, 0, 0, 0], [0]], [([3], []), ([0], []), ([], []), ([1, 2, 4, 5], []), ([5], []), ([1, 2, 4, 6], []), ([6], []), ([1, 2, 4, 7], []), ([7], []), ([1, 2, 4, 8], []), ([8], []), ([1, 2, 4, 9], []), ([9], []), ([1, 2, 4, 10], []), ([10], []), ([1, 2, 4, 11], []), ([11], []), ([1, 2, 4, 12], []), ([12], []), ([1, 2, 4, 13], []), ([13], []), ([1, 2, 4, 14], []), ([14], []), ([1, 2, 4, 15], []), ([15], []), ([1, 2, 4, 16], []), ([16], []), ([1, 2, 4, 17], []), ([17], []), ([1, 2, 4, 18], []), ([4, 18], []), ([1, 2, 19], []), ([1, 2, 19], [])]⟩
def ir_alu_pair : Vm.Fn := ⟨[0, 1, 2, 6, 7, 8, 13, 18, 24, 32, 38, 43, 49, 57, 62, 67, 73, 79, 86, 94], 0, 0, [.slot 3],
 .seq (.seq (.reg [⟨.mv (.c (.int .u64 0)), none⟩] [] [] [(3, 0, none)])
 (.drop [3] []))
 (.seq (.seq (.seq (.reg [⟨.mv (.s 0), none⟩] [] [] [(4, 0, none)])
 (.drop [0] []))
 (.block 0 (.seq (.reg [⟨.bin .eql (.s 4) (.c (.int .i64 35)), none⟩,
    ⟨.mv (.r 0), none⟩] [] [] [(5, 1, none)])
  (.cond (.s 5) (.seq (.seq (.reg [⟨.mv (.s 1), none⟩,
     ⟨.mv (.s 2), none⟩,
     ⟨.bin .add (.r 0) (.r 1), none⟩,
     ⟨.mv (.r 2), none⟩] [] [] [(3, 3, none)])
   (.drop [1, 2, 4, 5] []))
   (.ret))
   (.seq (.seq (.reg [⟨.bin .eql (.s 4) (.c (.int .i64 36)), none⟩,
     ⟨.mv (.r 0), none⟩] [] [] [(6, 1, none)])
   (.drop [5] []))
   (.cond (.s 6) (.seq (.seq (.reg [⟨.mv (.s 1), none⟩,
      ⟨.mv (.s 2), none⟩,
      ⟨.bin .sub (.r 0) (.r 1), none⟩,
      ⟨.mv (.r 2), none⟩] [] [] [(3, 3, none)])
    (.drop [1, 2, 4, 6] []))
    (.ret))
    (.seq (.seq (.reg [⟨.bin .eql (.s 4) (.c (.int .i64 37)), none⟩,
      ⟨.mv (.r 0), none⟩] [] [] [(7, 1, none)])
    (.drop [6] []))
    (.cond (.s 7) (.seq (.seq (.reg [⟨.mv (.s 1), none⟩,
       ⟨.mv (.s 2), none⟩,
       ⟨.bin .and (.r 1) (.c (.int .u64 63)), none⟩,
       ⟨.bin .shl (.r 0) (.r 2), none⟩,
       ⟨.mv (.r 3), none⟩] [] [] [(3, 4, none)])
     (.drop [1, 2, 4, 7] []))
     (.ret))
     (.seq (.seq (.reg [⟨.bin .eql (.s 4) (.c (.int .i64 38)), none⟩,
       ⟨.mv (.r 0), none⟩] [] [] [(8, 1, none)])
     (.drop [7] []))
     (.cond (.s 8) (.seq (.seq (.reg [⟨.mv (.s 1), none⟩,
        ⟨.i2i .i64 (.r 0), none⟩,
        ⟨.mv (.s 2), none⟩,
        ⟨.i2i .i64 (.r 2), none⟩,
        ⟨.bin .lss (.r 1) (.r 3), none⟩,
        ⟨.call .val n_alu_one [(.r 4)], none⟩,
        ⟨.mv (.r 5), none⟩] [] [] [(3, 6, none)])
      (.drop [1, 2, 4, 8] []))
      (.ret))
      (.seq (.seq (.reg [⟨.bin .eql (.s 4) (.c (.int .i64 39)), none⟩,
        ⟨.mv (.r 0), none⟩] [] [] [(9, 1, none)])
      (.drop [8] []))
      (.cond (.s 9) (.seq (.seq (.reg [⟨.mv (.s 1), none⟩,
         ⟨.mv (.s 2), none⟩,
         ⟨.bin .lss (.r 0) (.r 1), none⟩,
         ⟨.call .val n_alu_one [(.r 2)], none⟩,
         ⟨.mv (.r 3), none⟩] [] [] [(3, 4, none)])
       (.drop [1, 2, 4, 9] []))
       (.ret))
       (.seq (.seq (.reg [⟨.bin .eql (.s 4) (.c (.int .i64 40)), none⟩,
         ⟨.mv (.r 0), none⟩] [] [] [(10, 1, none)])
       (.drop [9] []))
       (.cond (.s 10) (.seq (.seq (.reg [⟨.mv (.s 1), none⟩,
          ⟨.mv (.s 2), none⟩,
          ⟨.bin .xor (.r 0) (.r 1), none⟩,
          ⟨.mv (.r 2), none⟩] [] [] [(3, 3, none)])
        (.drop [1, 2, 4, 10] []))
        (.ret))
        (.seq (.seq (.reg [⟨.bin .eql (.s 4) (.c (.int .i64 41)), none⟩,
          ⟨.mv (.r 0), none⟩] [] [] [(11, 1, none)])
        (.drop [10] []))
        (.cond (.s 11) (.seq (.seq (.reg [⟨.mv (.s 1), none⟩,
           ⟨.mv (.s 2), none⟩,
           ⟨.bin .and (.r 1) (.c (.int .u64 63)), none⟩,
           ⟨.bin .shr (.r 0) (.r 2), none⟩,
           ⟨.mv (.r 3), none⟩] [] [] [(3, 4, none)])
         (.drop [1, 2, 4, 11] []))
         (.ret))
         (.seq (.seq (.reg [⟨.bin .eql (.s 4) (.c (.int .i64 42)), none⟩,
           ⟨.mv (.r 0), none⟩] [] [] [(12, 1, none)])
         (.drop [11] []))
         (.cond (.s 12) (.seq (.seq (.reg [⟨.mv (.s 1), none⟩,
            ⟨.i2i .i64 (.r 0), none⟩,
            ⟨.mv (.s 2), none⟩,
            ⟨.bin .and (.r 2) (.c (.int .u64 63)), none⟩,
            ⟨.bin .shr (.r 1) (.r 3), none⟩,
            ⟨.i2i .u64 (.r 4), none⟩,
            ⟨.mv (.r 5), none⟩] [] [] [(3, 6, none)])
          (.drop [1, 2, 4, 12] []))
          (.ret))
          (.seq (.seq (.reg [⟨.bin .eql (.s 4) (.c (.int .i64 43)), none⟩,
            ⟨.mv (.r 0), none⟩] [] [] [(13, 1, none)])
          (.drop [12] []))
          (.cond (.s 13) (.seq (.seq (.reg [⟨.mv (.s 1), none⟩,
             ⟨.mv (.s 2), none⟩,
             ⟨.bin .or (.r 0) (.r 1), none⟩,
             ⟨.mv (.r 2), none⟩] [] [] [(3, 3, none)])
           (.drop [1, 2, 4, 13] []))
           (.ret))
           (.seq (.seq (.reg [⟨.bin .eql (.s 4) (.c (.int .i64 44)), none⟩,
             ⟨.mv (.r 0), none⟩] [] [] [(14, 1, none)])
           (.drop [13] []))
           (.cond (.s 14) (.seq (.seq (.reg [⟨.mv (.s 1), none⟩,
              ⟨.mv (.s 2), none⟩,
              ⟨.bin .and (.r 0) (.r 1), none⟩,
              ⟨.mv (.r 2), none⟩] [] [] [(3, 3, none)])
            (.drop [1, 2, 4, 14] []))
            (.ret))
            (.seq (.seq (.reg [⟨.bin .eql (.s 4) (.c (.int .i64 45)), none⟩,
              ⟨.mv (.r 0), none⟩] [] [] [(15, 1, none)])
            (.drop [14] []))
            (.cond (.s 15) (.seq (.seq (.reg [⟨.mv (.s 1), none⟩,
               ⟨.mv (.s 2), none⟩,
               ⟨.bin .add (.r 0) (.r 1), none⟩,
               ⟨.call .val n_alu_narrow [(.r 2)], none⟩,
               ⟨.mv (.r 3), none⟩] [] [] [(3, 4, none)])
             (.drop [1, 2, 4, 15] []))
             (.ret))
             (.seq (.seq (.reg [⟨.bin .eql (.s 4) (.c (.int .i64 46)), none⟩,
               ⟨.mv (.r 0), none⟩] [] [] [(16, 1, none)])
             (.drop [15] []))
             (.cond (.s 16) (.seq (.seq (.reg [⟨.mv (.s 1), none⟩,
                ⟨.mv (.s 2), none⟩,
                ⟨.bin .sub (.r 0) (.r 1), none⟩,
                ⟨.call .val n_alu_narrow [(.r 2)], none⟩,
                ⟨.mv (.r 3), none⟩] [] [] [(3, 4, none)])
              (.drop [1, 2, 4, 16] []))
              (.ret))
              (.seq (.seq (.reg [⟨.bin .eql (.s 4) (.c (.int .i64 47)), none⟩,
                ⟨.mv (.r 0), none⟩] [] [] [(17, 1, none)])
              (.drop [16] []))
              (.cond (.s 17) (.seq (.seq (.reg [⟨.mv (.s 1), none⟩,
                 ⟨.mv (.s 2), none⟩,
                 ⟨.bin .and (.r 1) (.c (.int .u64 31)), none⟩,
                 ⟨.bin .shl (.r 0) (.r 2), none⟩,
                 ⟨.call .val n_alu_narrow [(.r 3)], none⟩,
                 ⟨.mv (.r 4), none⟩] [] [] [(3, 5, none)])
               (.drop [1, 2, 4, 17] []))
               (.ret))
               (.seq (.seq (.reg [⟨.bin .eql (.s 4) (.c (.int .i64 48)), none⟩,
                 ⟨.mv (.r 0), none⟩] [] [] [(18, 1, none)])
               (.drop [17] []))
               (.cond (.s 18) (.seq (.seq (.reg [⟨.mv (.s 1), none⟩,
                  ⟨.call .val n_word_Zext [(.r 0), (.c (.int .i64 32))], none⟩,
                  ⟨.mv (.s 2), none⟩,
                  ⟨.bin .and (.r 2) (.c (.int .u64 31)), none⟩,
                  ⟨.bin .shr (.r 1) (.r 3), none⟩,
                  ⟨.call .val n_alu_narrow [(.r 4)], none⟩,
                  ⟨.mv (.r 5), none⟩] [] [] [(3, 6, none)])
                (.drop [1, 2, 4, 18] []))
                (.ret))
                (.seq (.seq (.reg [⟨.bin .eql (.s 4) (.c (.int .i64 49)), none⟩,
                  ⟨.mv (.r 0), none⟩] [] [] [(19, 1, none)])
                (.drop [4, 18] []))
                (.cond (.s 19) (.seq (.seq (.reg [⟨.mv (.s 1), none⟩,
                   ⟨.call .val n_alu_narrow [(.r 0)], none⟩,
                   ⟨.i2i .i64 (.r 1), none⟩,
                   ⟨.mv (.s 2), none⟩,
                   ⟨.bin .and (.r 3) (.c (.int .u64 31)), none⟩,
                   ⟨.bin .shr (.r 2) (.r 4), none⟩,
                   ⟨.i2i .u64 (.r 5), none⟩,
                   ⟨.mv (.r 6), none⟩] [] [] [(3, 7, none)])
                 (.drop [1, 2, 19] []))
                 (.ret))
                 (.skip)))))))))))))))))))))))))))))))))
 (.seq (.seq (.reg [⟨.mv (.c (.int .u64 0)), none⟩] [] [] [(3, 0, none)])
 (.drop [1, 2, 19] []))
 (.ret)))⟩
/-- 26: undertow/alu.pairs -/
def h26 : Vm.Hint := ⟨[0], [0], [], [[1], [0, 0]], [([], []), ([], [])]⟩
def ir_alu_pairs : Vm.Fn := ⟨[0], 1, 0, [.cell 0 true 13],
 .seq (.reg [⟨.lalloc 0 [.int .i64 0, .int .i64 0, .int .i64 0, .int .i64 0, .int .i64 0, .int .i64 0, .int .i64 0, .int .i64 0, .int .i64 0, .int .i64 0, .int .i64 0, .int .i64 0, .int .i64 0], none⟩] [(true, 0)] [] [(0, 0, some 1)])
 (.seq (.reg [⟨.build [.int .i64 0, .int .i64 0, .int .i64 0, .int .i64 0, .int .i64 0, .int .i64 0, .int .i64 0, .int .i64 0, .int .i64 0, .int .i64 0, .int .i64 0, .int .i64 0, .int .i64 0] [(0, 1, (.c (.int .i64 35))), (1, 1, (.c (.int .i64 38))), (2, 1, (.c (.int .i64 39))), (3, 1, (.c (.int .i64 40))), (4, 1, (.c (.int .i64 43))), (5, 1, (.c (.int .i64 44))), (6, 1, (.c (.int .i64 37))), (7, 1, (.c (.int .i64 41))), (8, 1, (.c (.int .i64 42))), (9, 1, (.c (.int .i64 45))), (10, 1, (.c (.int .i64 47))), (11, 1, (.c (.int .i64 48))), (12, 1, (.c (.int .i64 49)))], none⟩,
   ⟨.store 0 13 (.s 0) (.r 0), none⟩] [] [] [])
 (.ret))⟩
/-- 27: undertow/undertowref05.Sort -/
def h27 : Vm.Hint := ⟨[0, 2, 3, 4, 7, 11, 19], [], [], [[0], [0, 0], [0, 0], [0], [0], [0, 0, 0, 0], [0, 0, 0], [0, 0, 0, 0, 0, 0], [0, 0, 0], [0, 0, 0, 0, 0, 0, 0], [0]], []⟩
def ir_undertowref05_Sortl0 : C :=
 .seq (.seq (.reg [⟨.mv (.s 3), none⟩,
   ⟨.mv (.s 2), none⟩,
   ⟨.len 1 (.r 1), none⟩,
   ⟨.bin .lss (.r 0) (.r 2), none⟩] [] [] [(5, 3, none)])
 (.cond (.s 5) (.skip)
  (.exit 0)))
 (.seq (.block 1 (.seq (.seq (.reg [⟨.mv (.s 0), none⟩,
    ⟨.mv (.s 2), none⟩,
    ⟨.mv (.s 3), none⟩,
    ⟨.iaS 1 (.r 1) (.r 2), none⟩,
    ⟨.load 0 false 1 (.r 3), none⟩,
    ⟨.bin .leq (.r 0) (.r 4), none⟩] [] [] [(6, 5, none)])
  (.cond (.s 6) (.seq (.reg [⟨.mv (.s 3), none⟩,
     ⟨.bin .add (.r 0) (.c (.int .i64 1)), none⟩,
     ⟨.mv (.r 1), none⟩] [] [] [(1, 2, none)])
   (.ret))
   (.skip)))
  (.reg [⟨.mv (.s 0), none⟩,
    ⟨.mv (.s 2), none⟩,
    ⟨.mv (.s 3), none⟩,
    ⟨.iaS 1 (.r 1) (.r 2), none⟩,
    ⟨.load 0 false 1 (.r 3), none⟩,
    ⟨.bin .sub (.r 0) (.r 4), none⟩,
    ⟨.mv (.r 5), none⟩] [] [] [(0, 6, none)])))
 (.reg [⟨.mv (.s 3), none⟩,
   ⟨.bin .add (.r 0) (.c (.int .i64 1)), none⟩,
   ⟨.mv (.r 1), none⟩] [] [] [(3, 2, none)]))
def ir_undertowref05_Sort : Vm.Fn := ⟨[0, 2, 3, 4, 7, 11, 19], 0, 0, [.slot 1],
 .seq (.reg [⟨.mv (.c (.int .i64 0)), none⟩] [] [] [(1, 0, none)])
 (.seq (.reg [⟨.lit 0 1 [[.int .i64 0], [.int .i64 0], [.int .i64 0], [.int .i64 0], [.int .i64 0], [.int .i64 0], [.int .i64 0], [.int .i64 0], [.int .i64 0], [.int .i64 0], [.int .i64 0], [.int .i64 0]] [(0, (.c (.int .i64 2))), (1, (.c (.int .i64 2))), (2, (.c (.int .i64 6))), (3, (.c (.int .i64 7))), (4, (.c (.int .i64 4))), (5, (.c (.int .i64 13))), (6, (.c (.int .i64 15))), (7, (.c (.int .i64 2))), (8, (.c (.int .i64 2))), (9, (.c (.int .i64 2))), (10, (.c (.int .i64 2))), (11, (.c (.int .i64 18)))], none⟩,
   ⟨.mv (.r 0), none⟩] [] [] [(2, 1, none)])
 (.seq (.seq (.reg [⟨.mv (.s 0), none⟩,
   ⟨.bin .lss (.r 0) (.c (.int .i64 1)), none⟩] [] [] [(4, 1, none)])
 (.cond (.s 4) (.seq (.reg [⟨.mv (.c (.int .i64 0)), none⟩] [] [] [(1, 0, none)])
  (.ret))
  (.skip)))
 (.seq (.seq (.reg [⟨.mv (.c (.int .i64 0)), none⟩] [] [] [(3, 0, none)])
 (.block 0 (.loop ir_undertowref05_Sortl0)))
 (.seq (.reg [⟨.mv (.c (.int .i64 0)), none⟩] [] [] [(1, 0, none)])
 (.ret)))))⟩
/-- 28: undertow/undertowref05.Name -/
def h28 : Vm.Hint := ⟨[0, 2, 3, 12], [], [], [[0], [0, 0], [0, 0, 0, 0, 0, 0, 0, 0], [0], [0, 0, 0, 0, 0, 0]], []⟩
def ir_undertowref05_Name : Vm.Fn := ⟨[0, 2, 3, 12], 0, 0, [.slot 1],
 .seq (.reg [⟨.mv (.c (.str [])), none⟩] [] [] [(1, 0, none)])
 (.seq (.reg [⟨.call .val n_undertowref05_Names [], none⟩,
   ⟨.mv (.r 0), none⟩] [] [] [(2, 1, none)])
 (.seq (.seq (.reg [⟨.mv (.s 0), none⟩,
   ⟨.bin .lss (.r 0) (.c (.int .i64 1)), none⟩,
   ⟨.mv (.r 1), none⟩,
   ⟨.mv (.s 0), some (2, false)⟩,
   ⟨.mv (.s 2), some (2, false)⟩,
   ⟨.len 1 (.r 4), some (2, false)⟩,
   ⟨.bin .gtr (.r 3) (.r 5), some (2, false)⟩,
   ⟨.pick (.r 2) (.c (.bool true)) (.r 6), none⟩] [] [] [(3, 7, none)])
 (.cond (.s 3) (.seq (.reg [⟨.mv (.c (.str [])), none⟩] [] [] [(1, 0, none)])
  (.ret))
  (.skip)))
 (.seq (.reg [⟨.mv (.s 2), none⟩,
   ⟨.mv (.s 0), none⟩,
   ⟨.bin .sub (.r 1) (.c (.int .i64 1)), none⟩,
   ⟨.iaS 1 (.r 0) (.r 2), none⟩,
   ⟨.load 0 false 1 (.r 3), none⟩,
   ⟨.mv (.r 4), none⟩] [] [] [(1, 5, none)])
 (.ret))))⟩
/-- 29: undertow/undertowref08.Bool -/
def h29 : Vm.Hint := ⟨[0, 2, 3], [], [], [[0], [0], [0], [0]], [([1], []), ([0], []), ([2], []), ([2], [])]⟩
def ir_undertowref08_Bool : Vm.Fn := ⟨[0, 2, 3], 0, 0, [.slot 1],
 .seq (.seq (.reg [⟨.mv (.c (.int .u64 0)), none⟩] [] [] [(1, 0, none)])
 (.drop [1] []))
 (.seq (.seq (.seq (.reg [⟨.mv (.s 0), none⟩] [] [] [(2, 0, none)])
 (.drop [0] []))
 (.cond (.s 2) (.seq (.seq (.reg [⟨.mv (.c (.int .u64 1)), none⟩] [] [] [(1, 0, none)])
  (.drop [2] []))
  (.ret))
  (.skip)))
 (.seq (.seq (.reg [⟨.mv (.c (.int .u64 0)), none⟩] [] [] [(1, 0, none)])
 (.drop [2] []))
 (.ret)))⟩
/-- 30: undertow/undertowref08.Low -/
def h30 : Vm.Hint := ⟨[0, 1, 4, 5, 6, 13], [], [], [[0], [0, 0, 0, 0, 0, 0], [0, 0, 0], [0, 0, 0], [0, 0, 0, 0]], [([2], []), ([], []), ([4], []), ([0, 1, 3, 5], []), ([0, 1, 3, 5], [])]⟩
def ir_undertowref08_Low : Vm.Fn := ⟨[0, 1, 4, 5, 6, 13], 0, 0, [.slot 2],
 .seq (.seq (.reg [⟨.mv (.c (.bool false)), none⟩] [] [] [(2, 0, none)])
 (.drop [2] []))
 (.seq (.reg [⟨.mv (.s 0), none⟩,
   ⟨.bin .shr (.r 0) (.c (.int .u64 63)), none⟩,
   ⟨.mv (.s 1), none⟩,
   ⟨.bin .shr (.r 2) (.c (.int .u64 63)), none⟩,
   ⟨.mv (.r 1), none⟩,
   ⟨.mv (.r 3), none⟩] [] [] [(3, 4, none), (4, 5, none)])
 (.seq (.seq (.seq (.reg [⟨.mv (.s 3), none⟩,
   ⟨.mv (.s 4), none⟩,
   ⟨.bin .neq (.r 0) (.r 1), none⟩] [] [] [(5, 2, none)])
 (.drop [4] []))
 (.cond (.s 5) (.seq (.seq (.reg [⟨.mv (.s 3), none⟩,
    ⟨.bin .eql (.r 0) (.c (.int .u64 1)), none⟩,
    ⟨.mv (.r 1), none⟩] [] [] [(2, 2, none)])
  (.drop [0, 1, 3, 5] []))
  (.ret))
  (.skip)))
 (.seq (.seq (.reg [⟨.mv (.s 0), none⟩,
   ⟨.mv (.s 1), none⟩,
   ⟨.bin .lss (.r 0) (.r 1), none⟩,
   ⟨.mv (.r 2), none⟩] [] [] [(2, 3, none)])
 (.drop [0, 1, 3, 5] []))
 (.ret))))⟩
/-- 31: undertow/undertowref08.Left -/
def h31 : Vm.Hint := ⟨[0, 1, 4, 5, 8], [], [], [[0], [0], [0, 0, 0], [0, 0, 0], [0, 0, 0, 0], [0, 0]], [([2], []), ([], []), ([], []), ([], []), ([4], []), ([0, 1, 3, 4], [])]⟩
def ir_undertowref08_Leftl0 : C :=
 .seq (.seq (.reg [⟨.mv (.s 3), none⟩,
   ⟨.mv (.s 1), none⟩,
   ⟨.bin .lss (.r 0) (.r 1), none⟩] [] [] [(4, 2, none)])
 (.cond (.s 4) (.skip)
  (.exit 0)))
 (.seq (.block 1 (.seq (.reg [⟨.mv (.s 0), none⟩,
    ⟨.mv (.s 0), none⟩,
    ⟨.bin .add (.r 0) (.r 1), none⟩,
    ⟨.mv (.r 2), none⟩] [] [] [(0, 3, none)])
  (.drop [4] [])))
 (.reg [⟨.mv (.s 3), none⟩,
   ⟨.bin .add (.r 0) (.c (.int .i64 1)), none⟩,
   ⟨.mv (.r 1), none⟩] [] [] [(3, 2, none)]))
def ir_undertowref08_Left : Vm.Fn := ⟨[0, 1, 4, 5, 8], 0, 0, [.slot 2],
 .seq (.seq (.reg [⟨.mv (.c (.int .u64 0)), none⟩] [] [] [(2, 0, none)])
 (.drop [2] []))
 (.seq (.seq (.reg [⟨.mv (.c (.int .i64 0)), none⟩] [] [] [(3, 0, none)])
 (.block 0 (.loop ir_undertowref08_Leftl0)))
 (.seq (.seq (.reg [⟨.mv (.s 0), none⟩,
   ⟨.mv (.r 0), none⟩] [] [] [(2, 1, none)])
 (.drop [0, 1, 3, 4] []))
 (.ret)))⟩
/-- 32: undertow/undertowref08.Right -/
def h32 : Vm.Hint := ⟨[0, 1, 2, 3, 8, 9, 10, 11, 14, 22], [], [], [[0], [0], [0], [0, 0, 0], [0, 0, 0], [0, 0], [0, 0, 0, 0, 0], [0, 0, 0, 0, 0, 0, 0, 0], [0, 0, 0, 0, 0, 0, 0], [0, 0]], [([4], []), ([], []), ([], []), ([], []), ([], []), ([8], []), ([], []), ([9], []), ([7, 9], []), ([0, 1, 2, 3, 5, 6, 8], [])]⟩
def ir_undertowref08_Rightl0 : C :=
 .seq (.seq (.reg [⟨.mv (.s 6), none⟩,
   ⟨.mv (.s 1), none⟩,
   ⟨.bin .lss (.r 0) (.r 1), none⟩] [] [] [(8, 2, none)])
 (.cond (.s 8) (.skip)
  (.exit 0)))
 (.seq (.block 1 (.seq (.seq (.reg [⟨.mv (.s 3), none⟩,
    ⟨.mv (.r 0), none⟩] [] [] [(7, 1, none)])
  (.drop [8] []))
  (.seq (.seq (.reg [⟨.mv (.s 6), none⟩,
    ⟨.mv (.s 2), none⟩,
    ⟨.bin .add (.r 0) (.r 1), none⟩,
    ⟨.mv (.s 1), none⟩,
    ⟨.bin .lss (.r 2) (.r 3), none⟩] [] [] [(9, 4, none)])
  (.cond (.s 9) (.seq (.reg [⟨.mv (.s 0), none⟩,
     ⟨.mv (.s 6), none⟩,
     ⟨.mv (.s 2), none⟩,
     ⟨.bin .add (.r 1) (.r 2), none⟩,
     ⟨.i2i .u64 (.r 3), none⟩,
     ⟨.bin .shr (.r 0) (.r 4), none⟩,
     ⟨.bin .and (.r 5) (.c (.int .u64 1)), none⟩,
     ⟨.mv (.r 6), none⟩] [] [] [(7, 7, none)])
   (.drop [9] []))
   (.skip)))
  (.seq (.reg [⟨.mv (.s 5), none⟩,
    ⟨.mv (.s 7), none⟩,
    ⟨.mv (.s 6), none⟩,
    ⟨.i2i .u64 (.r 2), none⟩,
    ⟨.bin .shl (.r 1) (.r 3), none⟩,
    ⟨.bin .add (.r 0) (.r 4), none⟩,
    ⟨.mv (.r 5), none⟩] [] [] [(5, 6, none)])
  (.drop [7, 9] [])))))
 (.reg [⟨.mv (.s 6), none⟩,
   ⟨.bin .add (.r 0) (.c (.int .i64 1)), none⟩,
   ⟨.mv (.r 1), none⟩] [] [] [(6, 2, none)]))
def ir_undertowref08_Right : Vm.Fn := ⟨[0, 1, 2, 3, 8, 9, 10, 11, 14, 22], 0, 0, [.slot 4],
 .seq (.seq (.reg [⟨.mv (.c (.int .u64 0)), none⟩] [] [] [(4, 0, none)])
 (.drop [4] []))
 (.seq (.reg [⟨.mv (.c (.int .u64 0)), none⟩] [] [] [(5, 0, none)])
 (.seq (.seq (.reg [⟨.mv (.c (.int .i64 0)), none⟩] [] [] [(6, 0, none)])
 (.block 0 (.loop ir_undertowref08_Rightl0)))
 (.seq (.seq (.reg [⟨.mv (.s 5), none⟩,
   ⟨.mv (.r 0), none⟩] [] [] [(4, 1, none)])
 (.drop [0, 1, 2, 3, 5, 6, 8] []))
 (.ret))))⟩
/-- 33: undertow/undertowref01.Sext -/
def h33 : Vm.Hint := ⟨[0, 1, 4, 5, 6, 24, 28], [], [], [[0], [0, 0, 0, 0], [0, 0, 0, 0, 0, 0, 0, 0, 0, 0, 0, 0, 0, 0, 0], [0, 0], [0, 0], [0, 0], [0, 0, 0], [0, 0, 0, 0, 0, 0], [0, 0]], []⟩
def ir_undertowref01_Sextl0 : C :=
 .seq (.seq (.reg [⟨.mv (.s 4), none⟩,
   ⟨.bin .lss (.r 0) (.c (.int .i64 64)), none⟩] [] [] [(6, 1, none)])
 (.cond (.s 6) (.skip)
  (.exit 0)))
 (.seq (.block 1 (.reg [⟨.mv (.s 3), none⟩,
    ⟨.mv (.s 4), none⟩,
    ⟨.i2i .u64 (.r 1), none⟩,
    ⟨.bin .shl (.c (.int .u64 1)) (.r 2), none⟩,
    ⟨.bin .add (.r 0) (.r 3), none⟩,
    ⟨.mv (.r 4), none⟩] [] [] [(3, 5, none)]))
 (.reg [⟨.mv (.s 4), none⟩,
   ⟨.bin .add (.r 0) (.c (.int .i64 1)), none⟩,
   ⟨.mv (.r 1), none⟩] [] [] [(4, 2, none)]))
def ir_undertowref01_Sext : Vm.Fn := ⟨[0, 1, 4, 5, 6, 24, 28], 0, 0, [.slot 2],
 .seq (.reg [⟨.mv (.c (.int .u64 0)), none⟩] [] [] [(2, 0, none)])
 (.seq (.reg [⟨.mv (.s 0), none⟩,
   ⟨.mv (.s 1), none⟩,
   ⟨.call .val n_undertowref01_Zext [(.r 0), (.r 1)], none⟩,
   ⟨.mv (.r 2), none⟩] [] [] [(3, 3, none)])
 (.seq (.seq (.reg [⟨.mv (.s 1), none⟩,
   ⟨.bin .lss (.r 0) (.c (.int .i64 1)), none⟩,
   ⟨.mv (.r 1), none⟩,
   ⟨.mv (.s 1), some (2, false)⟩,
   ⟨.bin .gtr (.r 3) (.c (.int .i64 64)), some (2, false)⟩,
   ⟨.pick (.r 2) (.c (.bool true)) (.r 4), none⟩,
   ⟨.mv (.r 5), none⟩,
   ⟨.mv (.s 0), some (6, false)⟩,
   ⟨.mv (.s 1), some (6, false)⟩,
   ⟨.bin .sub (.r 8) (.c (.int .i64 1)), some (6, false)⟩,
   ⟨.i2i .u64 (.r 9), some (6, false)⟩,
   ⟨.bin .shr (.r 7) (.r 10), some (6, false)⟩,
   ⟨.bin .and (.r 11) (.c (.int .u64 1)), some (6, false)⟩,
   ⟨.bin .eql (.r 12) (.c (.int .u64 0)), some (6, false)⟩,
   ⟨.pick (.r 6) (.c (.bool true)) (.r 13), none⟩] [] [] [(5, 14, none)])
 (.cond (.s 5) (.seq (.reg [⟨.mv (.s 3), none⟩,
    ⟨.mv (.r 0), none⟩] [] [] [(2, 1, none)])
  (.ret))
  (.skip)))
 (.seq (.seq (.reg [⟨.mv (.s 1), none⟩,
   ⟨.mv (.r 0), none⟩] [] [] [(4, 1, none)])
 (.block 0 (.loop ir_undertowref01_Sextl0)))
 (.seq (.reg [⟨.mv (.s 3), none⟩,
   ⟨.mv (.r 0), none⟩] [] [] [(2, 1, none)])
 (.ret)))))⟩
/-- 34: undertow/ops.Size -/
def h34 : Vm.Hint := ⟨[0, 2, 3, 4, 8, 12, 18, 23, 27], [], [], [[0], [0], [0, 0], [0, 0], [0, 0], [0], [0, 0], [0, 0], [0, 0], [0], [0, 0], [0, 0], [0, 0], [0, 0], [0, 0], [0], [0, 0], [0, 0], [0, 0], [0, 0], [0], [0, 0, 0, 0], [0], [0, 0, 0], [0], [0]], []⟩
def ir_ops_Size : Vm.Fn := ⟨[0, 2, 3, 4, 8, 12, 18, 23, 27], 0, 0, [.slot 1],
 .seq (.reg [⟨.mv (.c (.int .i64 0)), none⟩] [] [] [(1, 0, none)])
 (.seq (.seq (.reg [⟨.mv (.s 0), none⟩] [] [] [(2, 0, none)])
 (.block 0 (.seq (.seq (.reg [⟨.bin .eql (.s 2) (.c (.int .i64 11)), none⟩,
    ⟨.mv (.r 0), none⟩] [] [] [(3, 1, none)])
  (.cond (.s 3) (.skip)
   (.seq (.reg [⟨.bin .eql (.s 2) (.c (.int .i64 15)), none⟩,
     ⟨.mv (.r 0), none⟩] [] [] [(3, 1, none)])
   (.cond (.s 3) (.skip)
    (.reg [⟨.bin .eql (.s 2) (.c (.int .i64 18)), none⟩,
      ⟨.mv (.r 0), none⟩] [] [] [(3, 1, none)])))))
  (.cond (.s 3) (.seq (.reg [⟨.mv (.c (.int .i64 1)), none⟩] [] [] [(1, 0, none)])
   (.ret))
   (.seq (.seq (.reg [⟨.bin .eql (.s 2) (.c (.int .i64 12)), none⟩,
     ⟨.mv (.r 0), none⟩] [] [] [(4, 1, none)])
   (.cond (.s 4) (.skip)
    (.seq (.reg [⟨.bin .eql (.s 2) (.c (.int .i64 16)), none⟩,
      ⟨.mv (.r 0), none⟩] [] [] [(4, 1, none)])
    (.cond (.s 4) (.skip)
     (.reg [⟨.bin .eql (.s 2) (.c (.int .i64 19)), none⟩,
       ⟨.mv (.r 0), none⟩] [] [] [(4, 1, none)])))))
   (.cond (.s 4) (.seq (.reg [⟨.mv (.c (.int .i64 2)), none⟩] [] [] [(1, 0, none)])
    (.ret))
    (.seq (.seq (.reg [⟨.bin .eql (.s 2) (.c (.int .i64 13)), none⟩,
      ⟨.mv (.r 0), none⟩] [] [] [(5, 1, none)])
    (.cond (.s 5) (.skip)
     (.seq (.reg [⟨.bin .eql (.s 2) (.c (.int .i64 17)), none⟩,
       ⟨.mv (.r 0), none⟩] [] [] [(5, 1, none)])
     (.cond (.s 5) (.skip)
      (.seq (.reg [⟨.bin .eql (.s 2) (.c (.int .i64 20)), none⟩,
        ⟨.mv (.r 0), none⟩] [] [] [(5, 1, none)])
      (.cond (.s 5) (.skip)
       (.seq (.reg [⟨.bin .eql (.s 2) (.c (.int .i64 54)), none⟩,
         ⟨.mv (.r 0), none⟩] [] [] [(5, 1, none)])
       (.cond (.s 5) (.skip)
        (.reg [⟨.bin .eql (.s 2) (.c (.int .i64 56)), none⟩,
          ⟨.mv (.r 0), none⟩] [] [] [(5, 1, none)])))))))))
    (.cond (.s 5) (.seq (.reg [⟨.mv (.c (.int .i64 4)), none⟩] [] [] [(1, 0, none)])
     (.ret))
     (.seq (.seq (.reg [⟨.bin .eql (.s 2) (.c (.int .i64 14)), none⟩,
       ⟨.mv (.r 0), none⟩] [] [] [(6, 1, none)])
     (.cond (.s 6) (.skip)
      (.seq (.reg [⟨.bin .eql (.s 2) (.c (.int .i64 21)), none⟩,
        ⟨.mv (.r 0), none⟩] [] [] [(6, 1, none)])
      (.cond (.s 6) (.skip)
       (.seq (.reg [⟨.bin .eql (.s 2) (.c (.int .i64 55)), none⟩,
         ⟨.mv (.r 0), none⟩] [] [] [(6, 1, none)])
       (.cond (.s 6) (.skip)
        (.reg [⟨.bin .eql (.s 2) (.c (.int .i64 57)), none⟩,
          ⟨.mv (.r 0), none⟩] [] [] [(6, 1, none)])))))))
     (.cond (.s 6) (.seq (.reg [⟨.mv (.c (.int .i64 8)), none⟩] [] [] [(1, 0, none)])
      (.ret))
      (.skip)))))))))))
 (.seq (.block 1 (.seq (.reg [⟨.mv (.s 0), none⟩,
    ⟨.call .val n_ops_Sort [(.r 0)], none⟩,
    ⟨.bin .neq (.r 1) (.c (.int .i64 12)), none⟩,
    ⟨.mv (.r 2), none⟩] [] [] [(7, 3, none)])
  (.cond (.s 7) (.seq (.reg [⟨.mv (.c (.int .i64 0)), none⟩] [] [] [(1, 0, none)])
   (.ret))
   (.seq (.reg [⟨.mv (.s 0), none⟩,
     ⟨.bin .leq (.r 0) (.c (.int .i64 66)), none⟩,
     ⟨.mv (.r 1), none⟩] [] [] [(8, 2, none)])
   (.cond (.s 8) (.seq (.reg [⟨.mv (.c (.int .i64 4)), none⟩] [] [] [(1, 0, none)])
    (.ret))
    (.skip))))))
 (.seq (.reg [⟨.mv (.c (.int .i64 8)), none⟩] [] [] [(1, 0, none)])
 (.ret))))⟩
/-- 35: undertow/word.Zext -/
def h35 : Vm.Hint := ⟨[0, 1, 4, 5, 8], [], [], [[0], [0, 0, 0], [0], [0, 0, 0], [0, 0], [0, 0, 0, 0, 0, 0]], []⟩
def ir_word_Zext : Vm.Fn := ⟨[0, 1, 4, 5, 8], 0, 0, [.slot 2],
 .seq (.reg [⟨.mv (.c (.int .u64 0)), none⟩] [] [] [(2, 0, none)])
 (.seq (.block 0 (.seq (.reg [⟨.mv (.s 1), none⟩,
    ⟨.bin .lss (.r 0) (.c (.int .i64 1)), none⟩,
    ⟨.mv (.r 1), none⟩] [] [] [(3, 2, none)])
  (.cond (.s 3) (.seq (.reg [⟨.mv (.c (.int .u64 0)), none⟩] [] [] [(2, 0, none)])
   (.ret))
   (.seq (.reg [⟨.mv (.s 1), none⟩,
     ⟨.bin .geq (.r 0) (.c (.int .i64 64)), none⟩,
     ⟨.mv (.r 1), none⟩] [] [] [(4, 2, none)])
   (.cond (.s 4) (.seq (.reg [⟨.mv (.s 0), none⟩,
      ⟨.mv (.r 0), none⟩] [] [] [(2, 1, none)])
    (.ret))
    (.skip))))))
 (.seq (.reg [⟨.mv (.s 0), none⟩,
   ⟨.mv (.s 1), none⟩,
   ⟨.bin .shl (.c (.int .u64 1)) (.r 1), none⟩,
   ⟨.bin .sub (.r 2) (.c (.int .u64 1)), none⟩,
   ⟨.bin .and (.r 0) (.r 3), none⟩,
   ⟨.mv (.r 4), none⟩] [] [] [(2, 5, none)])
 (.ret)))⟩
/-- 36: undertow/word.Sext -/
def h36 : Vm.Hint := ⟨[0, 1, 4, 10], [], [], [[0], [0, 0, 0, 0, 0, 0], [0, 0, 0, 0], [0, 0, 0, 0, 0, 0, 0, 0, 0, 0]], []⟩
def ir_word_Sext : Vm.Fn := ⟨[0, 1, 4, 10], 0, 0, [.slot 2],
 .seq (.reg [⟨.mv (.c (.int .u64 0)), none⟩] [] [] [(2, 0, none)])
 (.seq (.seq (.reg [⟨.mv (.s 1), none⟩,
   ⟨.bin .lss (.r 0) (.c (.int .i64 1)), none⟩,
   ⟨.mv (.r 1), none⟩,
   ⟨.mv (.s 1), some (2, false)⟩,
   ⟨.bin .geq (.r 3) (.c (.int .i64 64)), some (2, false)⟩,
   ⟨.pick (.r 2) (.c (.bool true)) (.r 4), none⟩] [] [] [(3, 5, none)])
 (.cond (.s 3) (.seq (.reg [⟨.mv (.s 0), none⟩,
    ⟨.mv (.s 1), none⟩,
    ⟨.call .val n_word_Zext [(.r 0), (.r 1)], none⟩,
    ⟨.mv (.r 2), none⟩] [] [] [(2, 3, none)])
  (.ret))
  (.skip)))
 (.seq (.reg [⟨.mv (.s 0), none⟩,
   ⟨.mv (.s 1), none⟩,
   ⟨.bin .sub (.c (.int .i64 64)) (.r 1), none⟩,
   ⟨.bin .shl (.r 0) (.r 2), none⟩,
   ⟨.i2i .i64 (.r 3), none⟩,
   ⟨.mv (.s 1), none⟩,
   ⟨.bin .sub (.c (.int .i64 64)) (.r 5), none⟩,
   ⟨.bin .shr (.r 4) (.r 6), none⟩,
   ⟨.i2i .u64 (.r 7), none⟩,
   ⟨.mv (.r 8), none⟩] [] [] [(2, 9, none)])
 (.ret)))⟩
/-- 37: undertow/alu.atomic -/
def h37 : Vm.Hint := ⟨[0, 1, 2, 3, 8, 9, 10, 19, 20, 23, 28, 33, 38, 43, 51, 59], [], [], [[0], [0, 0, 0, 0, 0, 0, 0, 0], [0, 0, 0], [0, 0], [0, 0], [0, 0], [0, 0, 0, 0], [0, 0], [0, 0, 0, 0], [0, 0], [0, 0, 0, 0], [0, 0], [0, 0, 0, 0], [0, 0], [0, 0, 0, 0, 0, 0, 0], [0, 0], [0, 0, 0, 0, 0, 0, 0], [0, 0], [0, 0, 0, 0], [0, 0, 0, 0]], [([4], []), ([3], []), ([0], []), ([], []), ([1, 2, 5, 6, 7, 8], []), ([8], []), ([1, 2, 5, 6, 7, 9], []), ([9], []), ([1, 2, 5, 6, 7, 10], []), ([10], []), ([1, 2, 5, 6, 7, 11], []), ([11], []), ([1, 2, 5, 6, 7, 12], []), ([12], []), ([1, 2, 5, 6, 7, 13], []), ([13], []), ([1, 2, 5, 6, 7, 14], []), ([1, 2, 7, 14], []), ([5, 6, 15], []), ([5, 6, 15], [])]⟩
def ir_alu_atomic : Vm.Fn := ⟨[0, 1, 2, 3, 8, 9, 10, 19, 20, 23, 28, 33, 38, 43, 51, 59], 0, 0, [.slot 4],
 .seq (.seq (.reg [⟨.mv (.c (.int .u64 0)), none⟩] [] [] [(4, 0, none)])
 (.drop [4] []))
 (.seq (.seq (.reg [⟨.mv (.s 1), none⟩,
   ⟨.mv (.s 3), none⟩,
   ⟨.call .val n_word_Zext [(.r 0), (.r 1)], none⟩,
   ⟨.mv (.s 2), none⟩,
   ⟨.mv (.s 3), none⟩,
   ⟨.call .val n_word_Zext [(.r 3), (.r 4)], none⟩,
   ⟨.mv (.r 2), none⟩,
   ⟨.mv (.r 5), none⟩] [] [] [(5, 6, none), (6, 7, none)])
 (.drop [3] []))
 (.seq (.seq (.seq (.reg [⟨.mv (.s 0), none⟩,
   ⟨.bin .sub (.r 0) (.c (.int .i64 58)), none⟩,
   ⟨.bin .rem (.r 1) (.c (.int .i64 9)), none⟩] [] [] [(7, 2, none)])
 (.drop [0] []))
 (.block 0 (.seq (.reg [⟨.bin .eql (.s 7) (.c (.int .i64 0)), none⟩,
    ⟨.mv (.r 0), none⟩] [] [] [(8, 1, none)])
  (.cond (.s 8) (.seq (.seq (.reg [⟨.mv (.s 2), none⟩,
     ⟨.mv (.r 0), none⟩] [] [] [(4, 1, none)])
   (.drop [1, 2, 5, 6, 7, 8] []))
   (.ret))
   (.seq (.seq (.reg [⟨.bin .eql (.s 7) (.c (.int .i64 1)), none⟩,
     ⟨.mv (.r 0), none⟩] [] [] [(9, 1, none)])
   (.drop [8] []))
   (.cond (.s 9) (.seq (.seq (.reg [⟨.mv (.s 1), none⟩,
      ⟨.mv (.s 2), none⟩,
      ⟨.bin .add (.r 0) (.r 1), none⟩,
      ⟨.mv (.r 2), none⟩] [] [] [(4, 3, none)])
    (.drop [1, 2, 5, 6, 7, 9] []))
    (.ret))
    (.seq (.seq (.reg [⟨.bin .eql (.s 7) (.c (.int .i64 2)), none⟩,
      ⟨.mv (.r 0), none⟩] [] [] [(10, 1, none)])
    (.drop [9] []))
    (.cond (.s 10) (.seq (.seq (.reg [⟨.mv (.s 1), none⟩,
       ⟨.mv (.s 2), none⟩,
       ⟨.bin .xor (.r 0) (.r 1), none⟩,
       ⟨.mv (.r 2), none⟩] [] [] [(4, 3, none)])
     (.drop [1, 2, 5, 6, 7, 10] []))
     (.ret))
     (.seq (.seq (.reg [⟨.bin .eql (.s 7) (.c (.int .i64 3)), none⟩,
       ⟨.mv (.r 0), none⟩] [] [] [(11, 1, none)])
     (.drop [10] []))
     (.cond (.s 11) (.seq (.seq (.reg [⟨.mv (.s 1), none⟩,
        ⟨.mv (.s 2), none⟩,
        ⟨.bin .and (.r 0) (.r 1), none⟩,
        ⟨.mv (.r 2), none⟩] [] [] [(4, 3, none)])
      (.drop [1, 2, 5, 6, 7, 11] []))
      (.ret))
      (.seq (.seq (.reg [⟨.bin .eql (.s 7) (.c (.int .i64 4)), none⟩,
        ⟨.mv (.r 0), none⟩] [] [] [(12, 1, none)])
      (.drop [11] []))
      (.cond (.s 12) (.seq (.seq (.reg [⟨.mv (.s 1), none⟩,
         ⟨.mv (.s 2), none⟩,
         ⟨.bin .or (.r 0) (.r 1), none⟩,
         ⟨.mv (.r 2), none⟩] [] [] [(4, 3, none)])
       (.drop [1, 2, 5, 6, 7, 12] []))
       (.ret))
       (.seq (.seq (.reg [⟨.bin .eql (.s 7) (.c (.int .i64 5)), none⟩,
         ⟨.mv (.r 0), none⟩] [] [] [(13, 1, none)])
       (.drop [12] []))
       (.cond (.s 13) (.seq (.seq (.reg [⟨.mv (.s 1), none⟩,
          ⟨.i2i .i64 (.r 0), none⟩,
          ⟨.mv (.s 2), none⟩,
          ⟨.i2i .i64 (.r 2), none⟩,
          ⟨.min [(.r 1), (.r 3)], none⟩,
          ⟨.i2i .u64 (.r 4), none⟩,
          ⟨.mv (.r 5), none⟩] [] [] [(4, 6, none)])
        (.drop [1, 2, 5, 6, 7, 13] []))
        (.ret))
        (.seq (.seq (.reg [⟨.bin .eql (.s 7) (.c (.int .i64 6)), none⟩,
          ⟨.mv (.r 0), none⟩] [] [] [(14, 1, none)])
        (.drop [13] []))
        (.cond (.s 14) (.seq (.seq (.reg [⟨.mv (.s 1), none⟩,
           ⟨.i2i .i64 (.r 0), none⟩,
           ⟨.mv (.s 2), none⟩,
           ⟨.i2i .i64 (.r 2), none⟩,
           ⟨.max [(.r 1), (.r 3)], none⟩,
           ⟨.i2i .u64 (.r 4), none⟩,
           ⟨.mv (.r 5), none⟩] [] [] [(4, 6, none)])
         (.drop [1, 2, 5, 6, 7, 14] []))
         (.ret))
         (.seq (.seq (.reg [⟨.bin .eql (.s 7) (.c (.int .i64 7)), none⟩,
           ⟨.mv (.r 0), none⟩] [] [] [(15, 1, none)])
         (.drop [1, 2, 7, 14] []))
         (.cond (.s 15) (.seq (.seq (.reg [⟨.mv (.s 5), none⟩,
            ⟨.mv (.s 6), none⟩,
            ⟨.min [(.r 0), (.r 1)], none⟩,
            ⟨.mv (.r 2), none⟩] [] [] [(4, 3, none)])
          (.drop [5, 6, 15] []))
          (.ret))
          (.skip)))))))))))))))))))
 (.seq (.seq (.reg [⟨.mv (.s 5), none⟩,
   ⟨.mv (.s 6), none⟩,
   ⟨.max [(.r 0), (.r 1)], none⟩,
   ⟨.mv (.r 2), none⟩] [] [] [(4, 3, none)])
 (.drop [5, 6, 15] []))
 (.ret))))⟩
/-- 38: undertow/alu.one -/
def h38 : Vm.Hint := ⟨[0, 2, 3], [], [], [[0], [0], [0], [0]], [([1], []), ([0], []), ([2], []), ([2], [])]⟩
def ir_alu_one : Vm.Fn := ⟨[0, 2, 3], 0, 0, [.slot 1],
 .seq (.seq (.reg [⟨.mv (.c (.int .u64 0)), none⟩] [] [] [(1, 0, none)])
 (.drop [1] []))
 (.seq (.seq (.seq (.reg [⟨.mv (.s 0), none⟩] [] [] [(2, 0, none)])
 (.drop [0] []))
 (.cond (.s 2) (.seq (.seq (.reg [⟨.mv (.c (.int .u64 1)), none⟩] [] [] [(1, 0, none)])
  (.drop [2] []))
  (.ret))
  (.skip)))
 (.seq (.seq (.reg [⟨.mv (.c (.int .u64 0)), none⟩] [] [] [(1, 0, none)])
 (.drop [2] []))
 (.ret)))⟩
/-- 39: undertow/alu.narrow -/
def h39 : Vm.Hint := ⟨[0, 2], [], [], [[0], [0, 0, 0]], [([1], []), ([0], [])]⟩
def ir_alu_narrow : Vm.Fn := ⟨[0, 2], 0, 0, [.slot 1],
 .seq (.seq (.reg [⟨.mv (.c (.int .u64 0)), none⟩] [] [] [(1, 0, none)])
 (.drop [1] []))
 (.seq (.seq (.reg [⟨.mv (.s 0), none⟩,
   ⟨.call .val n_word_Sext [(.r 0), (.c (.int .i64 32))], none⟩,
   ⟨.mv (.r 1), none⟩] [] [] [(1, 2, none)])
 (.drop [0] []))
 (.ret))⟩
/-- 40: undertow/undertowref05.Names -/
def h40 : Vm.Hint := ⟨[0], [], [], [[0], [0, 0]], []⟩
def ir_undertowref05_Names : Vm.Fn := ⟨[0], 0, 0, [.slot 0],
 .seq (.reg [⟨.mv (.c (.nils)), none⟩] [] [] [(0, 0, none)])
 (.seq (.reg [⟨.lit 0 1 [[.str []], [.str []], [.str []], [.str []], [.str []], [.str []], [.str []], [.str []], [.str []], [.str []], [.str []], [.str []], [.str []], [.str []], [.str []], [.str []], [.str []], [.str []], [.str []], [.str []], [.str []], [.str []], [.str []], [.str []], [.str []], [.str []], [.str []], [.str []], [.str []], [.str []], [.str []], [.str []], [.str []], [.str []], [.str []], [.str []], [.str []], [.str []], [.str []], [.str []], [.str []], [.str []], [.str []], [.str []], [.str []], [.str []], [.str []], [.str []], [.str []], [.str []], [.str []], [.str []], [.str []], [.str []], [.str []], [.str []], [.str []], [.str []], [.str []], [.str []], [.str []], [.str []], [.str []], [.str []], [.str []], [.str []], [.str []], [.str []], [.str []], [.str []], [.str []], [.str []], [.str []], [.str []], [.str []]] [(0, (.c (.str [108, 117, 105]))), (1, (.c (.str [97, 117, 105, 112, 99]))), (2, (.c (.str [106, 97, 108]))), (3, (.c (.str [106, 97, 108, 114]))), (4, (.c (.str [98, 101, 113]))), (5, (.c (.str [98, 110, 101]))), (6, (.c (.str [98, 108, 116]))), (7, (.c (.str [98, 103, 101]))), (8, (.c (.str [98, 108, 116, 117]))), (9, (.c (.str [98, 103, 101, 117]))), (10, (.c (.str [108, 98]))), (11, (.c (.str [108, 104]))), (12, (.c (.str [108, 119]))), (13, (.c (.str [108, 100]))), (14, (.c (.str [108, 98, 117]))), (15, (.c (.str [108, 104, 117]))), (16, (.c (.str [108, 119, 117]))), (17, (.c (.str [115, 98]))), (18, (.c (.str [115, 104]))), (19, (.c (.str [115, 119]))), (20, (.c (.str [115, 100]))), (21, (.c (.str [97, 100, 100, 105]))), (22, (.c (.str [115, 108, 116, 105]))), (23, (.c (.str [115, 108, 116, 105, 117]))), (24, (.c (.str [120, 111, 114, 105]))), (25, (.c (.str [111, 114, 105]))), (26, (.c (.str [97, 110, 100, 105]))), (27, (.c (.str [115, 108, 108, 105]))), (28, (.c (.str [115, 114, 108, 105]))), (29, (.c (.str [115, 114, 97, 105]))), (30, (.c (.str [97, 100, 100, 105, 119]))), (31, (.c (.str [115, 108, 108, 105, 119]))), (32, (.c (.str [115, 114, 108, 105, 119]))), (33, (.c (.str [115, 114, 97, 105, 119]))), (34, (.c (.str [97, 100, 100]))), (35, (.c (.str [115, 117, 98]))), (36, (.c (.str [115, 108, 108]))), (37, (.c (.str [115, 108, 116]))), (38, (.c (.str [115, 108, 116, 117]))), (39, (.c (.str [120, 111, 114]))), (40, (.c (.str [115, 114, 108]))), (41, (.c (.str [115, 114, 97]))), (42, (.c (.str [111, 114]))), (43, (.c (.str [97, 110, 100]))), (44, (.c (.str [97, 100, 100, 119]))), (45, (.c (.str [115, 117, 98, 119]))), (46, (.c (.str [115, 108, 108, 119]))), (47, (.c (.str [115, 114, 108, 119]))), (48, (.c (.str [115, 114, 97, 119]))), (49, (.c (.str [102, 101, 110, 99, 101]))), (50, (.c (.str [102, 101, 110, 99, 101, 46, 116, 115, 111]))), (51, (.c (.str [101, 99, 97, 108, 108]))), (52, (.c (.str [101, 98, 114, 101, 97, 107]))), (53, (.c (.str [108, 114, 46, 119]))), (54, (.c (.str [108, 114, 46, 100]))), (55, (.c (.str [115, 99, 46, 119]))), (56, (.c (.str [115, 99, 46, 100]))), (57, (.c (.str [97, 109, 111, 115, 119, 97, 112, 46, 119]))), (58, (.c (.str [97, 109, 111, 97, 100, 100, 46, 119]))), (59, (.c (.str [97, 109, 111, 120, 111, 114, 46, 119]))), (60, (.c (.str [97, 109, 111, 97, 110, 100, 46, 119]))), (61, (.c (.str [97, 109, 111, 111, 114, 46, 119]))), (62, (.c (.str [97, 109, 111, 109, 105, 110, 46, 119]))), (63, (.c (.str [97, 109, 111, 109, 97, 120, 46, 119]))), (64, (.c (.str [97, 109, 111, 109, 105, 110, 117, 46, 119]))), (65, (.c (.str [97, 109, 111, 109, 97, 120, 117, 46, 119]))), (66, (.c (.str [97, 109, 111, 115, 119, 97, 112, 46, 100]))), (67, (.c (.str [97, 109, 111, 97, 100, 100, 46, 100]))), (68, (.c (.str [97, 109, 111, 120, 111, 114, 46, 100]))), (69, (.c (.str [97, 109, 111, 97, 110, 100, 46, 100]))), (70, (.c (.str [97, 109, 111, 111, 114, 46, 100]))), (71, (.c (.str [97, 109, 111, 109, 105, 110, 46, 100]))), (72, (.c (.str [97, 109, 111, 109, 97, 120, 46, 100]))), (73, (.c (.str [97, 109, 111, 109, 105, 110, 117, 46, 100]))), (74, (.c (.str [97, 109, 111, 109, 97, 120, 117, 46, 100])))], none⟩,
   ⟨.mv (.r 0), none⟩] [] [] [(0, 1, none)])
 (.ret))⟩
def hints (f : Nat) : Option Vm.Hint := if f < 22 then (if f < 12 then (if f < 7 then (if f < 5 then (if f < 4 then (if f = 3 then some h3 else none) else (if f = 4 then some h4 else none)) else (if f < 6 then (if f = 5 then some h5 else none) else (if f = 6 then some h6 else none))) else (if f < 9 then (if f < 8 then (if f = 7 then some h7 else none) else (if f = 8 then some h8 else none)) else (if f < 10 then (if f = 9 then some h9 else none) else (if f < 11 then (if f = 10 then some h10 else none) else (if f = 11 then some h11 else none))))) else (if f < 17 then (if f < 14 then (if f < 13 then (if f = 12 then some h12 else none) else (if f = 13 then some h13 else none)) else (if f < 15 then (if f = 14 then some h14 else none) else (if f < 16 then (if f = 15 then some h15 else none) else (if f = 16 then some h16 else none)))) else (if f < 19 then (if f < 18 then (if f = 17 then some h17 else none) else (if f = 18 then some h18 else none)) else (if f < 20 then (if f = 19 then some h19 else none) else (if f < 21 then (if f = 20 then some h20 else none) else (if f = 21 then some h21 else none)))))) else (if f < 31 then (if f < 26 then (if f < 24 then (if f < 23 then (if f = 22 then some h22 else none) else (if f = 23 then some h23 else none)) else (if f < 25 then (if f = 24 then some h24 else none) else (if f = 25 then some h25 else none))) else (if f < 28 then (if f < 27 then (if f = 26 then some h26 else none) else (if f = 27 then some h27 else none)) else (if f < 29 then (if f = 28 then some h28 else none) else (if f < 30 then (if f = 29 then some h29 else none) else (if f = 30 then some h30 else none))))) else (if f < 36 then (if f < 33 then (if f < 32 then (if f = 31 then some h31 else none) else (if f = 32 then some h32 else none)) else (if f < 34 then (if f = 33 then some h33 else none) else (if f < 35 then (if f = 34 then some h34 else none) else (if f = 35 then some h35 else none)))) else (if f < 38 then (if f < 37 then (if f = 36 then some h36 else none) else (if f = 37 then some h37 else none)) else (if f < 39 then (if f = 38 then some h38 else none) else (if f < 40 then (if f = 39 then some h39 else none) else (if f = 40 then some h40 else none))))))
noncomputable abbrev pg : Vm.Pg := pgOf Go.Proofs.Try.prog hints
theorem fn_undertowlaw08_AluResults : pg.fn 3 = some ir_undertowlaw08_AluResults := by kernel_rfl
theorem fn_undertowlaw08_AluNext : pg.fn 4 = some ir_undertowlaw08_AluNext := by kernel_rfl
theorem fn_undertowlaw08_AluMemory : pg.fn 5 = some ir_undertowlaw08_AluMemory := by kernel_rfl
theorem fn_undertowlaw08_AluPairs : pg.fn 6 = some ir_undertowlaw08_AluPairs := by kernel_rfl
theorem fn_undertowlaw08_AluBack : pg.fn 7 = some ir_undertowlaw08_AluBack := by kernel_rfl
theorem fn_undertowlaw08_alive : pg.fn 8 = some ir_undertowlaw08_alive := by kernel_rfl
theorem fn_alu_Result : pg.fn 9 = some ir_alu_Result := by kernel_rfl
theorem fn_undertowref08_Result : pg.fn 10 = some ir_undertowref08_Result := by kernel_rfl
theorem fn_alu_Taken : pg.fn 11 = some ir_alu_Taken := by kernel_rfl
theorem fn_undertowref08_Taken : pg.fn 12 = some ir_undertowref08_Taken := by kernel_rfl
theorem fn_alu_Next : pg.fn 13 = some ir_alu_Next := by kernel_rfl
theorem fn_undertowref08_Next : pg.fn 14 = some ir_undertowref08_Next := by kernel_rfl
theorem fn_alu_Address : pg.fn 15 = some ir_alu_Address := by kernel_rfl
theorem fn_undertowref08_Address : pg.fn 16 = some ir_undertowref08_Address := by kernel_rfl
theorem fn_alu_Loaded : pg.fn 17 = some ir_alu_Loaded := by kernel_rfl
theorem fn_undertowref08_Loaded : pg.fn 18 = some ir_undertowref08_Loaded := by kernel_rfl
theorem fn_alu_Stored : pg.fn 19 = some ir_alu_Stored := by kernel_rfl
theorem fn_undertowref08_Stored : pg.fn 20 = some ir_undertowref08_Stored := by kernel_rfl
theorem fn_undertowref01_Zext : pg.fn 21 = some ir_undertowref01_Zext := by kernel_rfl
theorem fn_undertowref05_Size : pg.fn 22 = some ir_undertowref05_Size := by kernel_rfl
theorem fn_alu_Where : pg.fn 23 = some ir_alu_Where := by kernel_rfl
theorem fn_ops_Sort : pg.fn 24 = some ir_ops_Sort := by kernel_rfl
theorem fn_alu_pair : pg.fn 25 = some ir_alu_pair := by kernel_rfl
theorem fn_alu_pairs : pg.fn 26 = some ir_alu_pairs := by kernel_rfl
theorem fn_undertowref05_Sort : pg.fn 27 = some ir_undertowref05_Sort := by kernel_rfl
theorem fn_undertowref05_Name : pg.fn 28 = some ir_undertowref05_Name := by kernel_rfl
theorem fn_undertowref08_Bool : pg.fn 29 = some ir_undertowref08_Bool := by kernel_rfl
theorem fn_undertowref08_Low : pg.fn 30 = some ir_undertowref08_Low := by kernel_rfl
theorem fn_undertowref08_Left : pg.fn 31 = some ir_undertowref08_Left := by kernel_rfl
theorem fn_undertowref08_Right : pg.fn 32 = some ir_undertowref08_Right := by kernel_rfl
theorem fn_undertowref01_Sext : pg.fn 33 = some ir_undertowref01_Sext := by kernel_rfl
theorem fn_ops_Size : pg.fn 34 = some ir_ops_Size := by kernel_rfl
theorem fn_word_Zext : pg.fn 35 = some ir_word_Zext := by kernel_rfl
theorem fn_word_Sext : pg.fn 36 = some ir_word_Sext := by kernel_rfl
theorem fn_alu_atomic : pg.fn 37 = some ir_alu_atomic := by kernel_rfl
theorem fn_alu_one : pg.fn 38 = some ir_alu_one := by kernel_rfl
theorem fn_alu_narrow : pg.fn 39 = some ir_alu_narrow := by kernel_rfl
theorem fn_undertowref05_Names : pg.fn 40 = some ir_undertowref05_Names := by kernel_rfl
def irL : List (Nat × Vm.Fn) := [(3, ir_undertowlaw08_AluResults), (4, ir_undertowlaw08_AluNext), (5, ir_undertowlaw08_AluMemory), (6, ir_undertowlaw08_AluPairs), (7, ir_undertowlaw08_AluBack), (8, ir_undertowlaw08_alive), (9, ir_alu_Result), (10, ir_undertowref08_Result), (11, ir_alu_Taken), (12, ir_undertowref08_Taken), (13, ir_alu_Next), (14, ir_undertowref08_Next), (15, ir_alu_Address), (16, ir_undertowref08_Address), (17, ir_alu_Loaded), (18, ir_undertowref08_Loaded), (19, ir_alu_Stored), (20, ir_undertowref08_Stored), (21, ir_undertowref01_Zext), (22, ir_undertowref05_Size), (23, ir_alu_Where), (24, ir_ops_Sort), (25, ir_alu_pair), (26, ir_alu_pairs), (27, ir_undertowref05_Sort), (28, ir_undertowref05_Name), (29, ir_undertowref08_Bool), (30, ir_undertowref08_Low), (31, ir_undertowref08_Left), (32, ir_undertowref08_Right), (33, ir_undertowref01_Sext), (34, ir_ops_Size), (35, ir_word_Zext), (36, ir_word_Sext), (37, ir_alu_atomic), (38, ir_alu_one), (39, ir_alu_narrow), (40, ir_undertowref05_Names)]
theorem irL_ok : ∀ q ∈ irL, pg.fn q.1 = some q.2 := by
  simp only [irL, List.forall_mem_cons]
  exact ⟨fn_undertowlaw08_AluResults, fn_undertowlaw08_AluNext, fn_undertowlaw08_AluMemory, fn_undertowlaw08_AluPairs, fn_undertowlaw08_AluBack, fn_undertowlaw08_alive, fn_alu_Result, fn_undertowref08_Result, fn_alu_Taken, fn_undertowref08_Taken, fn_alu_Next, fn_undertowref08_Next, fn_alu_Address, fn_undertowref08_Address, fn_alu_Loaded, fn_undertowref08_Loaded, fn_alu_Stored, fn_undertowref08_Stored, fn_undertowref01_Zext, fn_undertowref05_Size, fn_alu_Where, fn_ops_Sort, fn_alu_pair, fn_alu_pairs, fn_undertowref05_Sort, fn_undertowref05_Name, fn_undertowref08_Bool, fn_undertowref08_Low, fn_undertowref08_Left, fn_undertowref08_Right, fn_undertowref01_Sext, fn_ops_Size, fn_word_Zext, fn_word_Sext, fn_alu_atomic, fn_alu_one, fn_alu_narrow, fn_undertowref05_Names, by simp⟩
end Go.Proofs.Ytffbhbjnkecieaa
