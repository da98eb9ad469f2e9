/- The functions' own form, printed by a tool of this session out of the given translation. -/
import Derived.Test.YtgcpojicidaphaaVf
import Derived.Test.YtgcpojicidaphaaChecked
import Derived.KernelRfl
namespace Go.Proofs.Ytgcpojicidaphaa
open Go Go.Vm
abbrev n_undertowlaw04_FieldPuts : Nat := 3
abbrev n_undertowlaw04_FieldGets : Nat := 4
abbrev n_undertowlaw04_FieldBack : Nat := 5
abbrev n_undertowlaw04_alive : Nat := 6
abbrev n_field_Put : Nat := 7
abbrev n_undertowref04_May : Nat := 8
abbrev n_undertowref04_Put : Nat := 9
abbrev n_field_Get : Nat := 10
abbrev n_undertowref04_Get : Nat := 11
abbrev n_field_Mask : Nat := 12
abbrev n_undertowref04_Mask : Nat := 13
abbrev n_field_of : Nat := 14
abbrev n_word_Sext : Nat := 15
abbrev n_word_Zext : Nat := 16
abbrev n_undertowref04_Places : Nat := 17
abbrev n_word_Field : Nat := 18
abbrev n_field_layouts : Nat := 19
/-- 3: undertow/undertowlaw04.FieldPuts -/
def h3 : Vm.Hint := ⟨[0, 1, 4, 5, 6, 7, 8, 10, 12, 17, 47], [], [], [[0], [0, 0], [0], [0], [0, 0], [0, 0, 0], [0, 0], [0, 0], [0, 0], [0, 0, 0, 0, 0, 0, 0, 0], [0, 0, 0, 0, 0, 0, 0, 0, 0, 0, 0, 0, 0, 0, 0, 0, 0, 0, 0, 0, 0, 0, 0], [0], [0, 0]]⟩
def ir_undertowlaw04_FieldPutsl0 : C :=
 .seq (.seq (.reg [⟨.mv (.s 3), none⟩,
   ⟨.bin .lss (.r 0) (.c (.int .i64 7)), none⟩] [] [] [(8, 1, none)])
 (.cond (.s 8) (.skip)
  (.exit 0)))
 (.seq (.block 1 (.seq (.reg [⟨.mv (.s 3), none⟩,
    ⟨.mv (.r 0), none⟩] [] [] [(4, 1, none)])
  (.seq (.seq (.reg [⟨.mv (.s 3), none⟩,
    ⟨.bin .eql (.r 0) (.c (.int .i64 0)), none⟩] [] [] [(9, 1, none)])
  (.cond (.s 9) (.reg [⟨.mv (.s 0), none⟩,
     ⟨.mv (.r 0), none⟩] [] [] [(4, 1, none)])
   (.skip)))
  (.seq (.reg [⟨.mv (.s 4), none⟩,
    ⟨.mv (.s 1), none⟩,
    ⟨.call .val n_field_Put [(.r 0), (.r 1)], none⟩,
    ⟨.mv (.r 2), none⟩,
    ⟨.ext (.r 3) 0, none⟩,
    ⟨.ext (.r 3) 1, none⟩,
    ⟨.mv (.r 4), none⟩,
    ⟨.mv (.r 5), none⟩] [] [] [(5, 6, none), (6, 7, none)])
  (.seq (.reg [⟨.mv (.s 6), none⟩,
    ⟨.mv (.s 4), none⟩,
    ⟨.mv (.s 1), none⟩,
    ⟨.call .val n_undertowref04_May [(.r 1), (.r 2)], none⟩,
    ⟨.eqb true (.r 0) (.r 3), none⟩,
    ⟨.mv (.r 4), none⟩,
    ⟨.mv (.s 6), some (5, false)⟩,
    ⟨.mv (.r 6), some (5, false)⟩,
    ⟨.mv (.s 5), some (7, true)⟩,
    ⟨.mv (.s 4), some (7, true)⟩,
    ⟨.mv (.s 1), some (7, true)⟩,
    ⟨.call .val n_undertowref04_Put [(.r 9), (.r 10)], some (7, true)⟩,
    ⟨.bin .neq (.r 8) (.r 11), some (7, true)⟩,
    ⟨.pick (.r 7) (.r 12) (.c (.bool false)), some (5, false)⟩,
    ⟨.pick (.r 5) (.c (.bool true)) (.r 13), none⟩,
    ⟨.mv (.r 14), none⟩,
    ⟨.mv (.s 6), some (15, false)⟩,
    ⟨.un .not (.r 16), some (15, false)⟩,
    ⟨.mv (.r 17), some (15, false)⟩,
    ⟨.mv (.s 5), some (18, true)⟩,
    ⟨.bin .neq (.r 19) (.c (.int .u32 0)), some (18, true)⟩,
    ⟨.pick (.r 18) (.r 20) (.c (.bool false)), some (15, false)⟩,
    ⟨.pick (.r 15) (.c (.bool true)) (.r 21), none⟩] [] [] [(10, 22, none)])
  (.cond (.s 10) (.seq (.reg [⟨.mv (.c (.bool false)), none⟩] [] [] [(2, 0, none)])
   (.ret))
   (.skip)))))))
 (.reg [⟨.mv (.s 3), none⟩,
   ⟨.bin .add (.r 0) (.c (.int .i64 1)), none⟩,
   ⟨.mv (.r 1), none⟩] [] [] [(3, 2, none)]))
def ir_undertowlaw04_FieldPuts : Vm.Fn := ⟨[0, 1, 4, 5, 6, 7, 8, 10, 12, 17, 47], 0, 0, [.slot 2],
 .seq (.reg [⟨.mv (.c (.bool false)), none⟩] [] [] [(2, 0, none)])
 (.seq (.seq (.reg [⟨.call .val n_undertowlaw04_alive [], none⟩,
   ⟨.un .not (.r 0), none⟩] [] [] [(7, 1, none)])
 (.cond (.s 7) (.seq (.reg [⟨.mv (.c (.bool false)), none⟩] [] [] [(2, 0, none)])
  (.ret))
  (.skip)))
 (.seq (.seq (.reg [⟨.mv (.c (.int .i64 0)), none⟩] [] [] [(3, 0, none)])
 (.block 0 (.loop ir_undertowlaw04_FieldPutsl0)))
 (.seq (.reg [⟨.call .val n_undertowlaw04_alive [], none⟩,
   ⟨.mv (.r 0), none⟩] [] [] [(2, 1, none)])
 (.ret))))⟩
/-- 4: undertow/undertowlaw04.FieldGets -/
def h4 : Vm.Hint := ⟨[0, 1, 4, 5, 6, 8, 10, 15, 30], [], [], [[0], [0, 0], [0], [0], [0, 0], [0, 0, 0], [0, 0], [0, 0], [0, 0], [0, 0, 0, 0, 0, 0, 0, 0, 0, 0, 0, 0, 0, 0], [0], [0, 0]]⟩
def ir_undertowlaw04_FieldGetsl0 : C :=
 .seq (.seq (.reg [⟨.mv (.s 3), none⟩,
   ⟨.bin .lss (.r 0) (.c (.int .i64 7)), none⟩] [] [] [(6, 1, none)])
 (.cond (.s 6) (.skip)
  (.exit 0)))
 (.seq (.block 1 (.seq (.reg [⟨.mv (.s 3), none⟩,
    ⟨.mv (.r 0), none⟩] [] [] [(4, 1, none)])
  (.seq (.seq (.reg [⟨.mv (.s 3), none⟩,
    ⟨.bin .eql (.r 0) (.c (.int .i64 0)), none⟩] [] [] [(7, 1, none)])
  (.cond (.s 7) (.reg [⟨.mv (.s 0), none⟩,
     ⟨.mv (.r 0), none⟩] [] [] [(4, 1, none)])
   (.skip)))
  (.seq (.reg [⟨.mv (.s 4), none⟩,
    ⟨.mv (.s 1), none⟩,
    ⟨.call .val n_field_Get [(.r 0), (.r 1)], none⟩,
    ⟨.mv (.s 4), none⟩,
    ⟨.mv (.s 1), none⟩,
    ⟨.call .val n_undertowref04_Get [(.r 3), (.r 4)], none⟩,
    ⟨.bin .neq (.r 2) (.r 5), none⟩,
    ⟨.mv (.r 6), none⟩,
    ⟨.mv (.s 4), some (7, false)⟩,
    ⟨.call .val n_field_Mask [(.r 8)], some (7, false)⟩,
    ⟨.mv (.s 4), some (7, false)⟩,
    ⟨.call .val n_undertowref04_Mask [(.r 10)], some (7, false)⟩,
    ⟨.bin .neq (.r 9) (.r 11), some (7, false)⟩,
    ⟨.pick (.r 7) (.c (.bool true)) (.r 12), none⟩] [] [] [(8, 13, none)])
  (.cond (.s 8) (.seq (.reg [⟨.mv (.c (.bool false)), none⟩] [] [] [(2, 0, none)])
   (.ret))
   (.skip))))))
 (.reg [⟨.mv (.s 3), none⟩,
   ⟨.bin .add (.r 0) (.c (.int .i64 1)), none⟩,
   ⟨.mv (.r 1), none⟩] [] [] [(3, 2, none)]))
def ir_undertowlaw04_FieldGets : Vm.Fn := ⟨[0, 1, 4, 5, 6, 8, 10, 15, 30], 0, 0, [.slot 2],
 .seq (.reg [⟨.mv (.c (.bool false)), none⟩] [] [] [(2, 0, none)])
 (.seq (.seq (.reg [⟨.call .val n_undertowlaw04_alive [], none⟩,
   ⟨.un .not (.r 0), none⟩] [] [] [(5, 1, none)])
 (.cond (.s 5) (.seq (.reg [⟨.mv (.c (.bool false)), none⟩] [] [] [(2, 0, none)])
  (.ret))
  (.skip)))
 (.seq (.seq (.reg [⟨.mv (.c (.int .i64 0)), none⟩] [] [] [(3, 0, none)])
 (.block 0 (.loop ir_undertowlaw04_FieldGetsl0)))
 (.seq (.reg [⟨.call .val n_undertowlaw04_alive [], none⟩,
   ⟨.mv (.r 0), none⟩] [] [] [(2, 1, none)])
 (.ret))))⟩
/-- 5: undertow/undertowlaw04.FieldBack -/
def h5 : Vm.Hint := ⟨[0, 1, 2, 6, 7, 8, 9, 10, 11, 13, 15, 38, 73], [], [], [[0], [0, 0], [0], [0], [0, 0], [0, 0, 0], [0, 0, 0, 0, 0, 0, 0, 0], [0, 0, 0, 0, 0, 0, 0, 0, 0, 0, 0, 0, 0, 0, 0], [0], [0, 0, 0, 0, 0, 0, 0, 0, 0, 0], [0, 0, 0, 0, 0, 0, 0, 0, 0, 0, 0, 0, 0, 0, 0, 0, 0, 0, 0, 0, 0, 0, 0, 0, 0, 0, 0], [0], [0, 0]]⟩
def ir_undertowlaw04_FieldBackl0 : C :=
 .seq (.seq (.reg [⟨.mv (.s 4), none⟩,
   ⟨.bin .lss (.r 0) (.c (.int .i64 6)), none⟩] [] [] [(10, 1, none)])
 (.cond (.s 10) (.skip)
  (.exit 0)))
 (.seq (.block 1 (.seq (.reg [⟨.mv (.s 4), none⟩,
    ⟨.mv (.s 0), none⟩,
    ⟨.call .val n_field_Put [(.r 0), (.r 1)], none⟩,
    ⟨.mv (.r 2), none⟩,
    ⟨.ext (.r 3) 0, none⟩,
    ⟨.ext (.r 3) 1, none⟩,
    ⟨.mv (.r 4), none⟩,
    ⟨.mv (.r 5), none⟩] [] [] [(5, 6, none), (6, 7, none)])
  (.seq (.seq (.reg [⟨.mv (.s 6), none⟩,
    ⟨.mv (.r 0), none⟩,
    ⟨.mv (.s 4), some (1, true)⟩,
    ⟨.mv (.s 5), some (1, true)⟩,
    ⟨.call .val n_field_Get [(.r 2), (.r 3)], some (1, true)⟩,
    ⟨.mv (.s 0), some (1, true)⟩,
    ⟨.bin .neq (.r 4) (.r 5), some (1, true)⟩,
    ⟨.mv (.r 6), some (1, true)⟩,
    ⟨.mv (.s 5), some (7, false)⟩,
    ⟨.mv (.s 4), some (7, false)⟩,
    ⟨.call .val n_field_Mask [(.r 9)], some (7, false)⟩,
    ⟨.bin .andNot (.r 8) (.r 10), some (7, false)⟩,
    ⟨.bin .neq (.r 11) (.c (.int .u32 0)), some (7, false)⟩,
    ⟨.pick (.r 7) (.c (.bool true)) (.r 12), some (1, true)⟩,
    ⟨.pick (.r 1) (.r 13) (.c (.bool false)), none⟩] [] [] [(11, 14, none)])
  (.cond (.s 11) (.seq (.reg [⟨.mv (.c (.bool false)), none⟩] [] [] [(3, 0, none)])
   (.ret))
   (.skip)))
  (.seq (.reg [⟨.mv (.s 4), none⟩,
    ⟨.mv (.s 4), none⟩,
    ⟨.mv (.s 1), none⟩,
    ⟨.call .val n_field_Get [(.r 1), (.r 2)], none⟩,
    ⟨.call .val n_field_Put [(.r 0), (.r 3)], none⟩,
    ⟨.mv (.r 4), none⟩,
    ⟨.ext (.r 5) 0, none⟩,
    ⟨.ext (.r 5) 1, none⟩,
    ⟨.mv (.r 6), none⟩,
    ⟨.mv (.r 7), none⟩] [] [] [(7, 8, none), (8, 9, none)])
  (.seq (.reg [⟨.mv (.s 8), none⟩,
    ⟨.un .not (.r 0), none⟩,
    ⟨.mv (.r 1), none⟩,
    ⟨.mv (.s 7), some (2, false)⟩,
    ⟨.mv (.s 1), some (2, false)⟩,
    ⟨.mv (.s 4), some (2, false)⟩,
    ⟨.call .val n_field_Mask [(.r 5)], some (2, false)⟩,
    ⟨.bin .and (.r 4) (.r 6), some (2, false)⟩,
    ⟨.bin .neq (.r 3) (.r 7), some (2, false)⟩,
    ⟨.pick (.r 2) (.c (.bool true)) (.r 8), none⟩,
    ⟨.mv (.r 9), none⟩,
    ⟨.mv (.s 4), some (10, false)⟩,
    ⟨.mv (.s 1), some (10, false)⟩,
    ⟨.call .val n_field_Get [(.r 11), (.r 12)], some (10, false)⟩,
    ⟨.mv (.s 4), some (10, false)⟩,
    ⟨.mv (.s 1), some (10, false)⟩,
    ⟨.mv (.s 4), some (10, false)⟩,
    ⟨.call .val n_field_Mask [(.r 16)], some (10, false)⟩,
    ⟨.bin .and (.r 15) (.r 17), some (10, false)⟩,
    ⟨.mv (.s 2), some (10, false)⟩,
    ⟨.mv (.s 4), some (10, false)⟩,
    ⟨.call .val n_field_Mask [(.r 20)], some (10, false)⟩,
    ⟨.bin .andNot (.r 19) (.r 21), some (10, false)⟩,
    ⟨.bin .or (.r 18) (.r 22), some (10, false)⟩,
    ⟨.call .val n_field_Get [(.r 14), (.r 23)], some (10, false)⟩,
    ⟨.bin .neq (.r 13) (.r 24), some (10, false)⟩,
    ⟨.pick (.r 10) (.c (.bool true)) (.r 25), none⟩] [] [] [(12, 26, none)])
  (.cond (.s 12) (.seq (.reg [⟨.mv (.c (.bool false)), none⟩] [] [] [(3, 0, none)])
   (.ret))
   (.skip)))))))
 (.reg [⟨.mv (.s 4), none⟩,
   ⟨.bin .add (.r 0) (.c (.int .i64 1)), none⟩,
   ⟨.mv (.r 1), none⟩] [] [] [(4, 2, none)]))
def ir_undertowlaw04_FieldBack : Vm.Fn := ⟨[0, 1, 2, 6, 7, 8, 9, 10, 11, 13, 15, 38, 73], 0, 0, [.slot 3],
 .seq (.reg [⟨.mv (.c (.bool false)), none⟩] [] [] [(3, 0, none)])
 (.seq (.seq (.reg [⟨.call .val n_undertowlaw04_alive [], none⟩,
   ⟨.un .not (.r 0), none⟩] [] [] [(9, 1, none)])
 (.cond (.s 9) (.seq (.reg [⟨.mv (.c (.bool false)), none⟩] [] [] [(3, 0, none)])
  (.ret))
  (.skip)))
 (.seq (.seq (.reg [⟨.mv (.c (.int .i64 1)), none⟩] [] [] [(4, 0, none)])
 (.block 0 (.loop ir_undertowlaw04_FieldBackl0)))
 (.seq (.reg [⟨.call .val n_undertowlaw04_alive [], none⟩,
   ⟨.mv (.r 0), none⟩] [] [] [(3, 1, none)])
 (.ret))))⟩
/-- 6: undertow/undertowlaw04.alive -/
def h6 : Vm.Hint := ⟨[0, 1, 2, 4], [], [], [[0], [0, 0, 0, 0, 0, 0], [0, 0, 0, 0, 0, 0], [0, 0, 0, 0, 0, 0, 0, 0, 0, 0, 0, 0, 0, 0, 0, 0, 0, 0]]⟩
def ir_undertowlaw04_alive : Vm.Fn := ⟨[0, 1, 2, 4], 0, 0, [.slot 0],
 .seq (.reg [⟨.mv (.c (.bool false)), none⟩] [] [] [(0, 0, none)])
 (.seq (.reg [⟨.call .val n_field_Put [(.c (.int .i64 1)), (.c (.int .i64 (-1)))], none⟩,
   ⟨.mv (.r 0), none⟩,
   ⟨.ext (.r 1) 0, none⟩,
   ⟨.ext (.r 1) 1, none⟩,
   ⟨.mv (.r 2), none⟩,
   ⟨.mv (.r 3), none⟩] [] [] [(1, 4, none), (2, 5, none)])
 (.seq (.reg [⟨.call .val n_field_Put [(.c (.int .i64 5)), (.c (.int .i64 1))], none⟩,
   ⟨.mv (.r 0), none⟩,
   ⟨.ext (.r 1) 0, none⟩,
   ⟨.ext (.r 1) 1, none⟩,
   ⟨.mv (.r 2), none⟩,
   ⟨.mv (.r 3), none⟩] [] [] [(3, 5, none)])
 (.seq (.reg [⟨.mv (.s 2), none⟩,
   ⟨.mv (.r 0), none⟩,
   ⟨.mv (.s 3), some (1, true)⟩,
   ⟨.un .not (.r 2), some (1, true)⟩,
   ⟨.pick (.r 1) (.r 3) (.c (.bool false)), none⟩,
   ⟨.mv (.r 4), none⟩,
   ⟨.mv (.s 1), some (5, true)⟩,
   ⟨.bin .eql (.r 6) (.c (.int .u32 4293918720)), some (5, true)⟩,
   ⟨.pick (.r 5) (.r 7) (.c (.bool false)), none⟩,
   ⟨.mv (.r 8), none⟩,
   ⟨.call .val n_field_Get [(.c (.int .i64 3)), (.c (.int .u32 2147483648))], some (9, true)⟩,
   ⟨.bin .eql (.r 10) (.c (.int .i64 (-4096))), some (9, true)⟩,
   ⟨.pick (.r 9) (.r 11) (.c (.bool false)), none⟩,
   ⟨.mv (.r 12), none⟩,
   ⟨.call .val n_field_Mask [(.c (.int .i64 4))], some (13, true)⟩,
   ⟨.bin .eql (.r 14) (.c (.int .u32 4294963200)), some (13, true)⟩,
   ⟨.pick (.r 13) (.r 15) (.c (.bool false)), none⟩,
   ⟨.mv (.r 16), none⟩] [] [] [(0, 17, none)])
 (.ret))))⟩
/-- 7: undertow/field.Put -/
def h7 : Vm.Hint := ⟨[0, 1, 4, 5, 6, 7, 8, 10, 35, 37, 38, 39, 40], [6, 10], [], [[0, 0], [0, 0, 0, 0, 0, 1, 0, 0], [0, 0, 0, 0, 0, 0, 0, 0, 0, 0, 0, 0, 0, 0, 0, 0, 0, 0, 0, 0], [0, 0], [0], [0, 0, 0, 0], [0], [0, 0, 2, 0], [0, 0, 0, 0, 0, 0, 0, 0, 0, 0, 0, 0, 0, 0, 0, 0, 0, 0, 0], [0, 0], [0, 0, 0]]⟩
def ir_field_Putl0 : C :=
 .seq (.reg [⟨.bin .lss (.s 11) (.s 10), none⟩] [] [] [(12, 0, none)])
 (.seq (.cond (.s 12) (.skip)
  (.exit 0))
 (.seq (.block 1 (.seq (.reg [⟨.iaS 3 (.s 9) (.s 11), none⟩,
    ⟨.load 0 true 3 (.r 0), none⟩,
    ⟨.lalloc 1 [.int .i64 0, .int .i64 0, .int .i64 0], none⟩,
    ⟨.store 0 3 (.r 2) (.r 1), none⟩] [(true, 1)] [] [(7, 2, some 3)])
  (.reg [⟨.mv (.s 6), none⟩,
    ⟨.mv (.s 1), none⟩,
    ⟨.i2i .u64 (.r 1), none⟩,
    ⟨.off 2 (.s 7), none⟩,
    ⟨.load 0 false 1 (.r 3), none⟩,
    ⟨.bin .shr (.r 2) (.r 4), none⟩,
    ⟨.off 0 (.s 7), none⟩,
    ⟨.load 0 false 1 (.r 6), none⟩,
    ⟨.off 1 (.s 7), none⟩,
    ⟨.load 0 false 1 (.r 8), none⟩,
    ⟨.bin .sub (.r 7) (.r 9), none⟩,
    ⟨.bin .add (.r 10) (.c (.int .i64 1)), none⟩,
    ⟨.call .val n_word_Zext [(.r 5), (.r 11)], none⟩,
    ⟨.i2i .u32 (.r 12), none⟩,
    ⟨.off 1 (.s 7), none⟩,
    ⟨.load 0 false 1 (.r 14), none⟩,
    ⟨.bin .shl (.r 13) (.r 15), none⟩,
    ⟨.bin .or (.r 0) (.r 16), none⟩,
    ⟨.mv (.r 17), none⟩] [] [(4, 7), (4, 9), (4, 15), (7, 9), (7, 15), (9, 15), (12, 15)] [(6, 18, none)])))
 (.reg [⟨.bin .add (.s 11) (.c (.int .i64 1)), none⟩,
   ⟨.mv (.r 0), none⟩] [] [] [(11, 1, none)])))
def ir_field_Put : Vm.Fn := ⟨[0, 1, 4, 5, 6, 7, 8, 10, 35, 37, 38, 39, 40], 2, 0, [.slot 2, .slot 3],
 .seq (.reg [⟨.mv (.c (.int .u32 0)), none⟩,
   ⟨.mv (.c (.bool false)), none⟩] [] [] [(2, 0, none), (3, 1, none)])
 (.seq (.reg [⟨.mv (.s 0), none⟩,
   ⟨.call .val n_field_of [(.r 0)], none⟩,
   ⟨.mv (.r 1), none⟩,
   ⟨.ext (.r 2) 0, none⟩,
   ⟨.ext (.r 2) 1, none⟩,
   ⟨.lalloc 0 [.int .i64 0, .int .i64 0, .nils], none⟩,
   ⟨.store 0 3 (.r 5) (.r 3), none⟩,
   ⟨.mv (.r 4), none⟩] [(true, 0)] [] [(4, 5, some 1), (5, 7, none)])
 (.seq (.seq (.reg [⟨.mv (.s 5), none⟩,
   ⟨.un .not (.r 0), none⟩,
   ⟨.mv (.r 1), none⟩,
   ⟨.mv (.s 1), some (2, false)⟩,
   ⟨.i2i .u64 (.r 3), some (2, false)⟩,
   ⟨.off 0 (.s 4), some (2, false)⟩,
   ⟨.load 0 false 1 (.r 5), some (2, false)⟩,
   ⟨.call .val n_word_Sext [(.r 4), (.r 6)], some (2, false)⟩,
   ⟨.mv (.s 1), some (2, false)⟩,
   ⟨.i2i .u64 (.r 8), some (2, false)⟩,
   ⟨.bin .neq (.r 7) (.r 9), some (2, false)⟩,
   ⟨.pick (.r 2) (.c (.bool true)) (.r 10), none⟩,
   ⟨.mv (.r 11), none⟩,
   ⟨.mv (.s 1), some (12, false)⟩,
   ⟨.i2i .u64 (.r 13), some (12, false)⟩,
   ⟨.off 1 (.s 4), some (12, false)⟩,
   ⟨.load 0 false 1 (.r 15), some (12, false)⟩,
   ⟨.call .val n_word_Zext [(.r 14), (.r 16)], some (12, false)⟩,
   ⟨.bin .neq (.r 17) (.c (.int .u64 0)), some (12, false)⟩,
   ⟨.pick (.r 12) (.c (.bool true)) (.r 18), none⟩] [] [] [(8, 19, none)])
 (.cond (.s 8) (.seq (.reg [⟨.mv (.c (.int .u32 0)), none⟩,
    ⟨.mv (.c (.bool false)), none⟩] [] [] [(2, 0, none), (3, 1, none)])
  (.ret))
  (.skip)))
 (.seq (.reg [⟨.mv (.c (.int .u32 0)), none⟩] [] [] [(6, 0, none)])
 (.seq (.seq (.reg [⟨.off 2 (.s 4), none⟩,
   ⟨.load 0 false 1 (.r 0), none⟩,
   ⟨.len 1 (.r 1), none⟩,
   ⟨.mv (.c (.int .i64 0)), none⟩] [] [] [(9, 1, none), (10, 2, none), (11, 3, none)])
 (.block 0 (.loop ir_field_Putl0)))
 (.seq (.reg [⟨.mv (.s 6), none⟩,
   ⟨.mv (.r 0), none⟩,
   ⟨.mv (.c (.bool true)), none⟩] [] [] [(2, 1, none), (3, 2, none)])
 (.ret))))))⟩
/-- 8: undertow/undertowref04.May -/
def h8 : Vm.Hint := ⟨[0, 1, 4, 5, 6, 15, 28, 41], [], [], [[0], [0], [0, 0], [0, 0], [0, 0, 0, 0, 0, 0, 0], [0, 0], [0, 0, 0, 0, 0, 0, 0, 0, 0, 0, 0, 0], [0, 0], [0, 0, 0, 0, 0, 0, 0, 0, 0, 0, 0, 0], [0, 0], [0, 0, 0, 0, 0, 0, 0, 0, 0, 0, 0, 0], [0]]⟩
def ir_undertowref04_May : Vm.Fn := ⟨[0, 1, 4, 5, 6, 15, 28, 41], 0, 0, [.slot 2],
 .seq (.reg [⟨.mv (.c (.bool false)), none⟩] [] [] [(2, 0, none)])
 (.seq (.seq (.reg [⟨.mv (.s 0), none⟩] [] [] [(3, 0, none)])
 (.block 0 (.seq (.seq (.reg [⟨.bin .eql (.s 3) (.c (.int .i64 1)), none⟩,
    ⟨.mv (.r 0), none⟩] [] [] [(4, 1, none)])
  (.cond (.s 4) (.skip)
   (.reg [⟨.bin .eql (.s 3) (.c (.int .i64 2)), none⟩,
     ⟨.mv (.r 0), none⟩] [] [] [(4, 1, none)])))
  (.cond (.s 4) (.seq (.reg [⟨.mv (.s 1), none⟩,
     ⟨.bin .geq (.r 0) (.c (.int .i64 (-2048))), none⟩,
     ⟨.mv (.r 1), none⟩,
     ⟨.mv (.s 1), some (2, true)⟩,
     ⟨.bin .leq (.r 3) (.c (.int .i64 2047)), some (2, true)⟩,
     ⟨.pick (.r 2) (.r 4) (.c (.bool false)), none⟩,
     ⟨.mv (.r 5), none⟩] [] [] [(2, 6, none)])
   (.ret))
   (.seq (.reg [⟨.bin .eql (.s 3) (.c (.int .i64 3)), none⟩,
     ⟨.mv (.r 0), none⟩] [] [] [(5, 1, none)])
   (.cond (.s 5) (.seq (.reg [⟨.mv (.s 1), none⟩,
      ⟨.bin .geq (.r 0) (.c (.int .i64 (-4096))), none⟩,
      ⟨.mv (.r 1), none⟩,
      ⟨.mv (.s 1), some (2, true)⟩,
      ⟨.bin .leq (.r 3) (.c (.int .i64 4095)), some (2, true)⟩,
      ⟨.pick (.r 2) (.r 4) (.c (.bool false)), none⟩,
      ⟨.mv (.r 5), none⟩,
      ⟨.mv (.s 1), some (6, true)⟩,
      ⟨.bin .rem (.r 7) (.c (.int .i64 2)), some (6, true)⟩,
      ⟨.bin .eql (.r 8) (.c (.int .i64 0)), some (6, true)⟩,
      ⟨.pick (.r 6) (.r 9) (.c (.bool false)), none⟩,
      ⟨.mv (.r 10), none⟩] [] [] [(2, 11, none)])
    (.ret))
    (.seq (.reg [⟨.bin .eql (.s 3) (.c (.int .i64 4)), none⟩,
      ⟨.mv (.r 0), none⟩] [] [] [(6, 1, none)])
    (.cond (.s 6) (.seq (.reg [⟨.mv (.s 1), none⟩,
       ⟨.bin .geq (.r 0) (.c (.int .i64 (-2147483648))), none⟩,
       ⟨.mv (.r 1), none⟩,
       ⟨.mv (.s 1), some (2, true)⟩,
       ⟨.bin .leq (.r 3) (.c (.int .i64 2147483647)), some (2, true)⟩,
       ⟨.pick (.r 2) (.r 4) (.c (.bool false)), none⟩,
       ⟨.mv (.r 5), none⟩,
       ⟨.mv (.s 1), some (6, true)⟩,
       ⟨.bin .rem (.r 7) (.c (.int .i64 4096)), some (6, true)⟩,
       ⟨.bin .eql (.r 8) (.c (.int .i64 0)), some (6, true)⟩,
       ⟨.pick (.r 6) (.r 9) (.c (.bool false)), none⟩,
       ⟨.mv (.r 10), none⟩] [] [] [(2, 11, none)])
     (.ret))
     (.seq (.reg [⟨.bin .eql (.s 3) (.c (.int .i64 5)), none⟩,
       ⟨.mv (.r 0), none⟩] [] [] [(7, 1, none)])
     (.cond (.s 7) (.seq (.reg [⟨.mv (.s 1), none⟩,
        ⟨.bin .geq (.r 0) (.c (.int .i64 (-1048576))), none⟩,
        ⟨.mv (.r 1), none⟩,
        ⟨.mv (.s 1), some (2, true)⟩,
        ⟨.bin .leq (.r 3) (.c (.int .i64 1048575)), some (2, true)⟩,
        ⟨.pick (.r 2) (.r 4) (.c (.bool false)), none⟩,
        ⟨.mv (.r 5), none⟩,
        ⟨.mv (.s 1), some (6, true)⟩,
        ⟨.bin .rem (.r 7) (.c (.int .i64 2)), some (6, true)⟩,
        ⟨.bin .eql (.r 8) (.c (.int .i64 0)), some (6, true)⟩,
        ⟨.pick (.r 6) (.r 9) (.c (.bool false)), none⟩,
        ⟨.mv (.r 10), none⟩] [] [] [(2, 11, none)])
      (.ret))
      (.skip)))))))))))
 (.seq (.reg [⟨.mv (.c (.bool false)), none⟩] [] [] [(2, 0, none)])
 (.ret)))⟩
/-- 9: undertow/undertowref04.Put -/
def h9 : Vm.Hint := ⟨[0, 1, 4, 5, 6, 7, 11, 28], [5], [], [[0], [0, 0, 1, 0], [0], [0], [0, 0], [0, 0, 0], [0, 0, 0, 0, 0, 0, 0, 0, 0, 0, 0, 0, 0, 0, 0], [0, 0, 0, 0, 0, 0], [0, 0]]⟩
def ir_undertowref04_Putl0 : C :=
 .seq (.seq (.reg [⟨.mv (.s 5), none⟩,
   ⟨.bin .lss (.r 0) (.c (.int .i64 32)), none⟩] [] [] [(6, 1, none)])
 (.cond (.s 6) (.skip)
  (.exit 0)))
 (.seq (.block 1 (.seq (.reg [⟨.mv (.s 5), none⟩,
    ⟨.iaA 32 1 (.s 3) (.r 0), none⟩,
    ⟨.load 0 false 1 (.r 1), none⟩,
    ⟨.bin .geq (.r 2) (.c (.int .i64 0)), none⟩,
    ⟨.mv (.r 3), none⟩,
    ⟨.mv (.s 1), some (4, true)⟩,
    ⟨.i2i .u64 (.r 5), some (4, true)⟩,
    ⟨.mv (.s 5), some (4, true)⟩,
    ⟨.iaA 32 1 (.s 3) (.r 7), some (4, true)⟩,
    ⟨.load 0 false 1 (.r 8), some (4, true)⟩,
    ⟨.i2i .u64 (.r 9), some (4, true)⟩,
    ⟨.bin .shr (.r 6) (.r 10), some (4, true)⟩,
    ⟨.bin .and (.r 11) (.c (.int .u64 1)), some (4, true)⟩,
    ⟨.bin .eql (.r 12) (.c (.int .u64 1)), some (4, true)⟩,
    ⟨.pick (.r 4) (.r 13) (.c (.bool false)), none⟩] [] [] [(7, 14, none)])
  (.cond (.s 7) (.reg [⟨.mv (.s 4), none⟩,
     ⟨.mv (.s 5), none⟩,
     ⟨.i2i .u64 (.r 1), none⟩,
     ⟨.bin .shl (.c (.int .u32 1)) (.r 2), none⟩,
     ⟨.bin .add (.r 0) (.r 3), none⟩,
     ⟨.mv (.r 4), none⟩] [] [] [(4, 5, none)])
   (.skip))))
 (.reg [⟨.mv (.s 5), none⟩,
   ⟨.bin .add (.r 0) (.c (.int .i64 1)), none⟩,
   ⟨.mv (.r 1), none⟩] [] [] [(5, 2, none)]))
def ir_undertowref04_Put : Vm.Fn := ⟨[0, 1, 4, 5, 6, 7, 11, 28], 1, 0, [.slot 2],
 .seq (.reg [⟨.mv (.c (.int .u32 0)), none⟩] [] [] [(2, 0, none)])
 (.seq (.reg [⟨.mv (.s 0), none⟩,
   ⟨.call .val n_undertowref04_Places [(.r 0)], none⟩,
   ⟨.lalloc 0 [.int .i64 0, .int .i64 0, .int .i64 0, .int .i64 0, .int .i64 0, .int .i64 0, .int .i64 0, .int .i64 0, .int .i64 0, .int .i64 0, .int .i64 0, .int .i64 0, .int .i64 0, .int .i64 0, .int .i64 0, .int .i64 0, .int .i64 0, .int .i64 0, .int .i64 0, .int .i64 0, .int .i64 0, .int .i64 0, .int .i64 0, .int .i64 0, .int .i64 0, .int .i64 0, .int .i64 0, .int .i64 0, .int .i64 0, .int .i64 0, .int .i64 0, .int .i64 0], none⟩,
   ⟨.store 0 32 (.r 2) (.r 1), none⟩] [(true, 0)] [] [(3, 2, some 1)])
 (.seq (.reg [⟨.mv (.c (.int .u32 0)), none⟩] [] [] [(4, 0, none)])
 (.seq (.seq (.reg [⟨.mv (.c (.int .i64 0)), none⟩] [] [] [(5, 0, none)])
 (.block 0 (.loop ir_undertowref04_Putl0)))
 (.seq (.reg [⟨.mv (.s 4), none⟩,
   ⟨.mv (.r 0), none⟩] [] [] [(2, 1, none)])
 (.ret)))))⟩
/-- 10: undertow/field.Get -/
def h10 : Vm.Hint := ⟨[0, 1, 4, 5, 6, 7, 9, 16, 18, 19, 20, 21], [5, 9], [], [[0], [0, 0, 0, 0, 0, 1, 0, 0], [0, 0], [0], [0], [0, 0, 0, 0], [0], [0, 0, 2, 0], [0, 0, 0, 0, 0, 0, 0, 0, 0, 0, 0, 0, 0], [0, 0], [0, 0, 0, 0, 0, 0]]⟩
def ir_field_Getl0 : C :=
 .seq (.reg [⟨.bin .lss (.s 10) (.s 9), none⟩] [] [] [(11, 0, none)])
 (.seq (.cond (.s 11) (.skip)
  (.exit 0))
 (.seq (.block 1 (.seq (.reg [⟨.iaS 3 (.s 8) (.s 10), none⟩,
    ⟨.load 0 true 3 (.r 0), none⟩,
    ⟨.lalloc 1 [.int .i64 0, .int .i64 0, .int .i64 0], none⟩,
    ⟨.store 0 3 (.r 2) (.r 1), none⟩] [(true, 1)] [] [(6, 2, some 3)])
  (.reg [⟨.mv (.s 5), none⟩,
    ⟨.mv (.s 1), none⟩,
    ⟨.off 0 (.s 6), none⟩,
    ⟨.load 0 false 1 (.r 2), none⟩,
    ⟨.off 1 (.s 6), none⟩,
    ⟨.load 0 false 1 (.r 4), none⟩,
    ⟨.call .val n_word_Field [(.r 1), (.r 3), (.r 5)], none⟩,
    ⟨.i2i .u64 (.r 6), none⟩,
    ⟨.off 2 (.s 6), none⟩,
    ⟨.load 0 false 1 (.r 8), none⟩,
    ⟨.bin .shl (.r 7) (.r 9), none⟩,
    ⟨.bin .or (.r 0) (.r 10), none⟩,
    ⟨.mv (.r 11), none⟩] [] [(3, 5), (3, 9), (5, 9), (6, 9)] [(5, 12, none)])))
 (.reg [⟨.bin .add (.s 10) (.c (.int .i64 1)), none⟩,
   ⟨.mv (.r 0), none⟩] [] [] [(10, 1, none)])))
def ir_field_Get : Vm.Fn := ⟨[0, 1, 4, 5, 6, 7, 9, 16, 18, 19, 20, 21], 2, 0, [.slot 2],
 .seq (.reg [⟨.mv (.c (.int .i64 0)), none⟩] [] [] [(2, 0, none)])
 (.seq (.reg [⟨.mv (.s 0), none⟩,
   ⟨.call .val n_field_of [(.r 0)], none⟩,
   ⟨.mv (.r 1), none⟩,
   ⟨.ext (.r 2) 0, none⟩,
   ⟨.ext (.r 2) 1, none⟩,
   ⟨.lalloc 0 [.int .i64 0, .int .i64 0, .nils], none⟩,
   ⟨.store 0 3 (.r 5) (.r 3), none⟩,
   ⟨.mv (.r 4), none⟩] [(true, 0)] [] [(3, 5, some 1), (4, 7, none)])
 (.seq (.seq (.reg [⟨.mv (.s 4), none⟩,
   ⟨.un .not (.r 0), none⟩] [] [] [(7, 1, none)])
 (.cond (.s 7) (.seq (.reg [⟨.mv (.c (.int .i64 0)), none⟩] [] [] [(2, 0, none)])
  (.ret))
  (.skip)))
 (.seq (.reg [⟨.mv (.c (.int .u64 0)), none⟩] [] [] [(5, 0, none)])
 (.seq (.seq (.reg [⟨.off 2 (.s 3), none⟩,
   ⟨.load 0 false 1 (.r 0), none⟩,
   ⟨.len 1 (.r 1), none⟩,
   ⟨.mv (.c (.int .i64 0)), none⟩] [] [] [(8, 1, none), (9, 2, none), (10, 3, none)])
 (.block 0 (.loop ir_field_Getl0)))
 (.seq (.reg [⟨.mv (.s 5), none⟩,
   ⟨.off 0 (.s 3), none⟩,
   ⟨.load 0 false 1 (.r 1), none⟩,
   ⟨.call .val n_word_Sext [(.r 0), (.r 2)], none⟩,
   ⟨.i2i .i64 (.r 3), none⟩,
   ⟨.mv (.r 4), none⟩] [] [] [(2, 5, none)])
 (.ret))))))⟩
/-- 11: undertow/undertowref04.Get -/
def h11 : Vm.Hint := ⟨[0, 1, 4, 5, 6, 7, 11, 25, 27], [5], [], [[0], [0, 0, 1, 0], [0], [0], [0, 0], [0, 0, 0], [0, 0, 0, 0, 0, 0, 0, 0, 0, 0, 0, 0], [0, 0], [0, 0, 0, 0, 0, 0, 0, 0], [0, 0, 0, 0, 0, 0, 0, 0], [0, 0]]⟩
def ir_undertowref04_Getl0 : C :=
 .seq (.seq (.reg [⟨.mv (.s 5), none⟩,
   ⟨.bin .lss (.r 0) (.c (.int .i64 32)), none⟩] [] [] [(6, 1, none)])
 (.cond (.s 6) (.skip)
  (.exit 0)))
 (.seq (.block 1 (.seq (.seq (.reg [⟨.mv (.s 5), none⟩,
    ⟨.iaA 32 1 (.s 3) (.r 0), none⟩,
    ⟨.load 0 false 1 (.r 1), none⟩,
    ⟨.bin .lss (.r 2) (.c (.int .i64 0)), none⟩,
    ⟨.mv (.r 3), none⟩,
    ⟨.mv (.s 1), some (4, false)⟩,
    ⟨.mv (.s 5), some (4, false)⟩,
    ⟨.i2i .u64 (.r 6), some (4, false)⟩,
    ⟨.bin .shr (.r 5) (.r 7), some (4, false)⟩,
    ⟨.bin .and (.r 8) (.c (.int .u32 1)), some (4, false)⟩,
    ⟨.bin .eql (.r 9) (.c (.int .u32 0)), some (4, false)⟩,
    ⟨.pick (.r 4) (.c (.bool true)) (.r 10), none⟩] [] [] [(7, 11, none)])
  (.cond (.s 7) (.exit 1)
   (.skip)))
  (.seq (.reg [⟨.mv (.s 5), none⟩,
    ⟨.bin .eql (.r 0) (.c (.int .i64 31)), none⟩] [] [] [(8, 1, none)])
  (.cond (.s 8) (.reg [⟨.mv (.s 4), none⟩,
     ⟨.mv (.s 5), none⟩,
     ⟨.iaA 32 1 (.s 3) (.r 1), none⟩,
     ⟨.load 0 false 1 (.r 2), none⟩,
     ⟨.i2i .u64 (.r 3), none⟩,
     ⟨.bin .shl (.c (.int .i64 1)) (.r 4), none⟩,
     ⟨.bin .sub (.r 0) (.r 5), none⟩,
     ⟨.mv (.r 6), none⟩] [] [] [(4, 7, none)])
   (.reg [⟨.mv (.s 4), none⟩,
     ⟨.mv (.s 5), none⟩,
     ⟨.iaA 32 1 (.s 3) (.r 1), none⟩,
     ⟨.load 0 false 1 (.r 2), none⟩,
     ⟨.i2i .u64 (.r 3), none⟩,
     ⟨.bin .shl (.c (.int .i64 1)) (.r 4), none⟩,
     ⟨.bin .add (.r 0) (.r 5), none⟩,
     ⟨.mv (.r 6), none⟩] [] [] [(4, 7, none)])))))
 (.reg [⟨.mv (.s 5), none⟩,
   ⟨.bin .add (.r 0) (.c (.int .i64 1)), none⟩,
   ⟨.mv (.r 1), none⟩] [] [] [(5, 2, none)]))
def ir_undertowref04_Get : Vm.Fn := ⟨[0, 1, 4, 5, 6, 7, 11, 25, 27], 1, 0, [.slot 2],
 .seq (.reg [⟨.mv (.c (.int .i64 0)), none⟩] [] [] [(2, 0, none)])
 (.seq (.reg [⟨.mv (.s 0), none⟩,
   ⟨.call .val n_undertowref04_Places [(.r 0)], none⟩,
   ⟨.lalloc 0 [.int .i64 0, .int .i64 0, .int .i64 0, .int .i64 0, .int .i64 0, .int .i64 0, .int .i64 0, .int .i64 0, .int .i64 0, .int .i64 0, .int .i64 0, .int .i64 0, .int .i64 0, .int .i64 0, .int .i64 0, .int .i64 0, .int .i64 0, .int .i64 0, .int .i64 0, .int .i64 0, .int .i64 0, .int .i64 0, .int .i64 0, .int .i64 0, .int .i64 0, .int .i64 0, .int .i64 0, .int .i64 0, .int .i64 0, .int .i64 0, .int .i64 0, .int .i64 0], none⟩,
   ⟨.store 0 32 (.r 2) (.r 1), none⟩] [(true, 0)] [] [(3, 2, some 1)])
 (.seq (.reg [⟨.mv (.c (.int .i64 0)), none⟩] [] [] [(4, 0, none)])
 (.seq (.seq (.reg [⟨.mv (.c (.int .i64 0)), none⟩] [] [] [(5, 0, none)])
 (.block 0 (.loop ir_undertowref04_Getl0)))
 (.seq (.reg [⟨.mv (.s 4), none⟩,
   ⟨.mv (.r 0), none⟩] [] [] [(2, 1, none)])
 (.ret)))))⟩
/-- 12: undertow/field.Mask -/
def h12 : Vm.Hint := ⟨[0, 2, 3, 5, 6, 8, 14, 15, 18, 19, 20, 21, 33], [3, 8], [], [[0], [0, 0, 0, 0, 0, 1, 0, 0], [0], [0], [0], [0, 0], [0, 0, 0, 0], [0], [0, 0, 2, 0], [0, 0, 0, 0, 0, 0, 0, 0, 0, 0], [0, 0, 0, 0, 0], [0, 0], [0, 0], [0, 0]]⟩
def ir_field_Maskl0 : C :=
 .seq (.reg [⟨.bin .lss (.s 10) (.s 9), none⟩] [] [] [(11, 0, none)])
 (.seq (.cond (.s 11) (.skip)
  (.exit 2))
 (.seq (.block 3 (.seq (.reg [⟨.iaS 3 (.s 8) (.s 10), none⟩,
    ⟨.load 0 true 3 (.r 0), none⟩,
    ⟨.lalloc 1 [.int .i64 0, .int .i64 0, .int .i64 0], none⟩,
    ⟨.store 0 3 (.r 2) (.r 1), none⟩] [(true, 1)] [] [(5, 2, some 3)])
  (.seq (.reg [⟨.mv (.s 4), none⟩,
    ⟨.off 1 (.s 5), none⟩,
    ⟨.load 0 false 1 (.r 1), none⟩,
    ⟨.bin .geq (.r 0) (.r 2), none⟩,
    ⟨.mv (.r 3), none⟩,
    ⟨.mv (.s 4), some (4, true)⟩,
    ⟨.off 0 (.s 5), some (4, true)⟩,
    ⟨.load 0 false 1 (.r 6), some (4, true)⟩,
    ⟨.bin .leq (.r 5) (.r 7), some (4, true)⟩,
    ⟨.pick (.r 4) (.r 8) (.c (.bool false)), none⟩] [] [] [(12, 9, none)])
  (.cond (.s 12) (.seq (.reg [⟨.mv (.s 3), none⟩,
     ⟨.mv (.s 4), none⟩,
     ⟨.bin .shl (.c (.int .u32 1)) (.r 1), none⟩,
     ⟨.bin .or (.r 0) (.r 2), none⟩,
     ⟨.mv (.r 3), none⟩] [] [] [(3, 4, none)])
   (.exit 1))
   (.skip)))))
 (.reg [⟨.bin .add (.s 10) (.c (.int .i64 1)), none⟩,
   ⟨.mv (.r 0), none⟩] [] [] [(10, 1, none)])))
def ir_field_Maskl1 : C :=
 .seq (.reg [⟨.bin .lss (.s 6) (.c (.int .i64 32)), none⟩] [] [] [(7, 0, none)])
 (.seq (.cond (.s 7) (.skip)
  (.exit 0))
 (.seq (.block 1 (.seq (.reg [⟨.mv (.s 6), none⟩,
    ⟨.mv (.r 0), none⟩] [] [] [(4, 1, none)])
  (.seq (.reg [⟨.off 2 (.s 2), none⟩,
    ⟨.load 0 false 1 (.r 0), none⟩,
    ⟨.len 1 (.r 1), none⟩,
    ⟨.mv (.c (.int .i64 0)), none⟩] [] [] [(8, 1, none), (9, 2, none), (10, 3, none)])
  (.block 2 (.loop ir_field_Maskl0)))))
 (.reg [⟨.bin .add (.s 6) (.c (.int .i64 1)), none⟩,
   ⟨.mv (.r 0), none⟩] [] [] [(6, 1, none)])))
def ir_field_Mask : Vm.Fn := ⟨[0, 2, 3, 5, 6, 8, 14, 15, 18, 19, 20, 21, 33], 2, 0, [.slot 1],
 .seq (.reg [⟨.mv (.c (.int .u32 0)), none⟩] [] [] [(1, 0, none)])
 (.seq (.reg [⟨.mv (.s 0), none⟩,
   ⟨.call .val n_field_of [(.r 0)], none⟩,
   ⟨.mv (.r 1), none⟩,
   ⟨.ext (.r 2) 0, none⟩,
   ⟨.ext (.r 2) 1, none⟩,
   ⟨.lalloc 0 [.int .i64 0, .int .i64 0, .nils], none⟩,
   ⟨.store 0 3 (.r 5) (.r 3), none⟩,
   ⟨.mv (.r 4), none⟩] [(true, 0)] [] [(2, 5, some 1)])
 (.seq (.reg [⟨.mv (.c (.int .u32 0)), none⟩] [] [] [(3, 0, none)])
 (.seq (.seq (.reg [⟨.mv (.c (.int .i64 0)), none⟩] [] [] [(6, 0, none)])
 (.block 0 (.loop ir_field_Maskl1)))
 (.seq (.reg [⟨.mv (.s 3), none⟩,
   ⟨.mv (.r 0), none⟩] [] [] [(1, 1, none)])
 (.ret)))))⟩
/-- 13: undertow/undertowref04.Mask -/
def h13 : Vm.Hint := ⟨[0, 2, 3, 4, 5, 9, 15], [3], [], [[0], [0, 0, 1, 0], [0], [0], [0, 0], [0, 0, 0], [0, 0, 0, 0], [0, 0, 0, 0, 0, 0], [0, 0]]⟩
def ir_undertowref04_Maskl0 : C :=
 .seq (.seq (.reg [⟨.mv (.s 4), none⟩,
   ⟨.bin .lss (.r 0) (.c (.int .i64 32)), none⟩] [] [] [(5, 1, none)])
 (.cond (.s 5) (.skip)
  (.exit 0)))
 (.seq (.block 1 (.seq (.reg [⟨.mv (.s 4), none⟩,
    ⟨.iaA 32 1 (.s 2) (.r 0), none⟩,
    ⟨.load 0 false 1 (.r 1), none⟩,
    ⟨.bin .geq (.r 2) (.c (.int .i64 0)), none⟩] [] [] [(6, 3, none)])
  (.cond (.s 6) (.reg [⟨.mv (.s 3), none⟩,
     ⟨.mv (.s 4), none⟩,
     ⟨.i2i .u64 (.r 1), none⟩,
     ⟨.bin .shl (.c (.int .u32 1)) (.r 2), none⟩,
     ⟨.bin .add (.r 0) (.r 3), none⟩,
     ⟨.mv (.r 4), none⟩] [] [] [(3, 5, none)])
   (.skip))))
 (.reg [⟨.mv (.s 4), none⟩,
   ⟨.bin .add (.r 0) (.c (.int .i64 1)), none⟩,
   ⟨.mv (.r 1), none⟩] [] [] [(4, 2, none)]))
def ir_undertowref04_Mask : Vm.Fn := ⟨[0, 2, 3, 4, 5, 9, 15], 1, 0, [.slot 1],
 .seq (.reg [⟨.mv (.c (.int .u32 0)), none⟩] [] [] [(1, 0, none)])
 (.seq (.reg [⟨.mv (.s 0), none⟩,
   ⟨.call .val n_undertowref04_Places [(.r 0)], none⟩,
   ⟨.lalloc 0 [.int .i64 0, .int .i64 0, .int .i64 0, .int .i64 0, .int .i64 0, .int .i64 0, .int .i64 0, .int .i64 0, .int .i64 0, .int .i64 0, .int .i64 0, .int .i64 0, .int .i64 0, .int .i64 0, .int .i64 0, .int .i64 0, .int .i64 0, .int .i64 0, .int .i64 0, .int .i64 0, .int .i64 0, .int .i64 0, .int .i64 0, .int .i64 0, .int .i64 0, .int .i64 0, .int .i64 0, .int .i64 0, .int .i64 0, .int .i64 0, .int .i64 0, .int .i64 0], none⟩,
   ⟨.store 0 32 (.r 2) (.r 1), none⟩] [(true, 0)] [] [(2, 2, some 1)])
 (.seq (.reg [⟨.mv (.c (.int .u32 0)), none⟩] [] [] [(3, 0, none)])
 (.seq (.seq (.reg [⟨.mv (.c (.int .i64 0)), none⟩] [] [] [(4, 0, none)])
 (.block 0 (.loop ir_undertowref04_Maskl0)))
 (.seq (.reg [⟨.mv (.s 3), none⟩,
   ⟨.mv (.r 0), none⟩] [] [] [(1, 1, none)])
 (.ret)))))⟩
/-- 14: undertow/field.of -/
def h14 : Vm.Hint := ⟨[0, 2, 3, 9], [2], [], [[1, 0], [0, 0, 0, 0, 0, 0], [0, 0, 0], [0, 0, 0, 0, 0]]⟩
def ir_field_of : Vm.Fn := ⟨[0, 2, 3, 9], 1, 0, [.cell 1 true 3, .slot 2],
 .seq (.reg [⟨.lalloc 0 [.int .i64 0, .int .i64 0, .nils], none⟩,
   ⟨.mv (.c (.bool false)), none⟩] [(true, 0)] [] [(1, 0, some 1), (2, 1, none)])
 (.seq (.seq (.reg [⟨.mv (.s 0), none⟩,
   ⟨.bin .lss (.r 0) (.c (.int .i64 1)), none⟩,
   ⟨.mv (.r 1), none⟩,
   ⟨.mv (.s 0), some (2, false)⟩,
   ⟨.bin .gtr (.r 3) (.c (.int .i64 5)), some (2, false)⟩,
   ⟨.pick (.r 2) (.c (.bool true)) (.r 4), none⟩] [] [] [(3, 5, none)])
 (.cond (.s 3) (.seq (.reg [⟨.build [.int .i64 0, .int .i64 0, .nils] [], none⟩,
    ⟨.store 0 3 (.s 1) (.r 0), none⟩,
    ⟨.mv (.c (.bool false)), none⟩] [] [] [(2, 2, none)])
  (.ret))
  (.skip)))
 (.seq (.reg [⟨.call .val n_field_layouts [], none⟩,
   ⟨.mv (.s 0), none⟩,
   ⟨.ixA 6 3 true (.r 0) (.r 1), none⟩,
   ⟨.store 0 3 (.s 1) (.r 2), none⟩,
   ⟨.mv (.c (.bool true)), none⟩] [] [] [(2, 4, none)])
 (.ret)))⟩
/-- 15: undertow/word.Sext -/
def h15 : Vm.Hint := ⟨[0, 1, 4, 10], [], [], [[0], [0, 0, 0, 0, 0, 0], [0, 0, 0, 0], [0, 0, 0, 0, 0, 0, 0, 0, 0, 0]]⟩
def ir_word_Sext : Vm.Fn := ⟨[0, 1, 4, 10], 0, 0, [.slot 2],
 .seq (.reg [⟨.mv (.c (.int .u64 0)), none⟩] [] [] [(2, 0, none)])
 (.seq (.seq (.reg [⟨.mv (.s 1), none⟩,
   ⟨.bin .lss (.r 0) (.c (.int .i64 1)), none⟩,
   ⟨.mv (.r 1), none⟩,
   ⟨.mv (.s 1), some (2, false)⟩,
   ⟨.bin .geq (.r 3) (.c (.int .i64 64)), some (2, false)⟩,
   ⟨.pick (.r 2) (.c (.bool true)) (.r 4), none⟩] [] [] [(3, 5, none)])
 (.cond (.s 3) (.seq (.reg [⟨.mv (.s 0), none⟩,
    ⟨.mv (.s 1), none⟩,
    ⟨.call .val n_word_Zext [(.r 0), (.r 1)], none⟩,
    ⟨.mv (.r 2), none⟩] [] [] [(2, 3, none)])
  (.ret))
  (.skip)))
 (.seq (.reg [⟨.mv (.s 0), none⟩,
   ⟨.mv (.s 1), none⟩,
   ⟨.bin .sub (.c (.int .i64 64)) (.r 1), none⟩,
   ⟨.bin .shl (.r 0) (.r 2), none⟩,
   ⟨.i2i .i64 (.r 3), none⟩,
   ⟨.mv (.s 1), none⟩,
   ⟨.bin .sub (.c (.int .i64 64)) (.r 5), none⟩,
   ⟨.bin .shr (.r 4) (.r 6), none⟩,
   ⟨.i2i .u64 (.r 7), none⟩,
   ⟨.mv (.r 8), none⟩] [] [] [(2, 9, none)])
 (.ret)))⟩
/-- 16: undertow/word.Zext -/
def h16 : Vm.Hint := ⟨[0, 1, 4, 5, 8], [], [], [[0], [0, 0, 0], [0], [0, 0, 0], [0, 0], [0, 0, 0, 0, 0, 0]]⟩
def ir_word_Zext : Vm.Fn := ⟨[0, 1, 4, 5, 8], 0, 0, [.slot 2],
 .seq (.reg [⟨.mv (.c (.int .u64 0)), none⟩] [] [] [(2, 0, none)])
 (.seq (.block 0 (.seq (.reg [⟨.mv (.s 1), none⟩,
    ⟨.bin .lss (.r 0) (.c (.int .i64 1)), none⟩,
    ⟨.mv (.r 1), none⟩] [] [] [(3, 2, none)])
  (.cond (.s 3) (.seq (.reg [⟨.mv (.c (.int .u64 0)), none⟩] [] [] [(2, 0, none)])
   (.ret))
   (.seq (.reg [⟨.mv (.s 1), none⟩,
     ⟨.bin .geq (.r 0) (.c (.int .i64 64)), none⟩,
     ⟨.mv (.r 1), none⟩] [] [] [(4, 2, none)])
   (.cond (.s 4) (.seq (.reg [⟨.mv (.s 0), none⟩,
      ⟨.mv (.r 0), none⟩] [] [] [(2, 1, none)])
    (.ret))
    (.skip))))))
 (.seq (.reg [⟨.mv (.s 0), none⟩,
   ⟨.mv (.s 1), none⟩,
   ⟨.bin .shl (.c (.int .u64 1)) (.r 1), none⟩,
   ⟨.bin .sub (.r 2) (.c (.int .u64 1)), none⟩,
   ⟨.bin .and (.r 0) (.r 3), none⟩,
   ⟨.mv (.r 4), none⟩] [] [] [(2, 5, none)])
 (.ret)))⟩
/-- 17: undertow/undertowref04.Places -/
def h17 : Vm.Hint := ⟨[0, 2, 3, 4, 5, 7, 10, 11, 14, 17, 20, 28, 31, 34, 36, 42, 50, 53, 56, 58, 61, 67, 70, 76], [2, 3], [], [[1], [2], [0], [0, 0], [0, 0, 0], [0], [0], [0, 0], [0, 0], [0, 0, 0], [0, 0], [0, 0], [0, 0, 0], [0, 0, 0, 0, 0, 0], [0, 0, 0], [0, 0], [0, 0], [0], [0, 0], [0], [0, 0, 0, 0, 0, 0], [0, 0, 0], [0, 0, 0, 0, 0, 0], [0, 0, 0], [0, 0], [0, 0], [0, 0], [0, 0], [0, 0], [0], [0, 0, 0, 0, 0, 0], [0, 0], [0, 0], [0], [0, 0, 0, 0, 0, 0], [0, 0, 0], [0, 0, 0, 0], [0, 0]]⟩
def ir_undertowref04_Placesl0 : C :=
 .seq (.seq (.reg [⟨.mv (.s 3), none⟩,
   ⟨.bin .lss (.r 0) (.c (.int .i64 32)), none⟩] [] [] [(5, 1, none)])
 (.cond (.s 5) (.skip)
  (.exit 0)))
 (.seq (.block 1 (.seq (.reg [⟨.mv (.c (.int .i64 (-1))), none⟩] [] [] [(4, 0, none)])
  (.seq (.seq (.reg [⟨.mv (.s 0), none⟩] [] [] [(6, 0, none)])
  (.block 2 (.seq (.reg [⟨.bin .eql (.s 6) (.c (.int .i64 1)), none⟩,
     ⟨.mv (.r 0), none⟩] [] [] [(7, 1, none)])
   (.cond (.s 7) (.seq (.reg [⟨.mv (.s 3), none⟩,
      ⟨.bin .geq (.r 0) (.c (.int .i64 20)), none⟩] [] [] [(8, 1, none)])
    (.cond (.s 8) (.reg [⟨.mv (.s 3), none⟩,
       ⟨.bin .sub (.r 0) (.c (.int .i64 20)), none⟩,
       ⟨.mv (.r 1), none⟩] [] [] [(4, 2, none)])
     (.skip)))
    (.seq (.reg [⟨.bin .eql (.s 6) (.c (.int .i64 2)), none⟩,
      ⟨.mv (.r 0), none⟩] [] [] [(9, 1, none)])
    (.cond (.s 9) (.seq (.seq (.reg [⟨.mv (.s 3), none⟩,
       ⟨.bin .geq (.r 0) (.c (.int .i64 25)), none⟩] [] [] [(10, 1, none)])
     (.cond (.s 10) (.reg [⟨.mv (.s 3), none⟩,
        ⟨.bin .sub (.r 0) (.c (.int .i64 20)), none⟩,
        ⟨.mv (.r 1), none⟩] [] [] [(4, 2, none)])
      (.skip)))
     (.seq (.reg [⟨.mv (.s 3), none⟩,
       ⟨.bin .geq (.r 0) (.c (.int .i64 7)), none⟩,
       ⟨.mv (.r 1), none⟩,
       ⟨.mv (.s 3), some (2, true)⟩,
       ⟨.bin .leq (.r 3) (.c (.int .i64 11)), some (2, true)⟩,
       ⟨.pick (.r 2) (.r 4) (.c (.bool false)), none⟩] [] [] [(11, 5, none)])
     (.cond (.s 11) (.reg [⟨.mv (.s 3), none⟩,
        ⟨.bin .sub (.r 0) (.c (.int .i64 7)), none⟩,
        ⟨.mv (.r 1), none⟩] [] [] [(4, 2, none)])
      (.skip))))
     (.seq (.reg [⟨.bin .eql (.s 6) (.c (.int .i64 3)), none⟩,
       ⟨.mv (.r 0), none⟩] [] [] [(12, 1, none)])
     (.cond (.s 12) (.seq (.seq (.reg [⟨.mv (.s 3), none⟩,
        ⟨.bin .eql (.r 0) (.c (.int .i64 31)), none⟩] [] [] [(13, 1, none)])
      (.cond (.s 13) (.reg [⟨.mv (.c (.int .i64 12)), none⟩] [] [] [(4, 0, none)])
       (.skip)))
      (.seq (.seq (.reg [⟨.mv (.s 3), none⟩,
        ⟨.bin .eql (.r 0) (.c (.int .i64 7)), none⟩] [] [] [(14, 1, none)])
      (.cond (.s 14) (.reg [⟨.mv (.c (.int .i64 11)), none⟩] [] [] [(4, 0, none)])
       (.skip)))
      (.seq (.seq (.reg [⟨.mv (.s 3), none⟩,
        ⟨.bin .geq (.r 0) (.c (.int .i64 25)), none⟩,
        ⟨.mv (.r 1), none⟩,
        ⟨.mv (.s 3), some (2, true)⟩,
        ⟨.bin .leq (.r 3) (.c (.int .i64 30)), some (2, true)⟩,
        ⟨.pick (.r 2) (.r 4) (.c (.bool false)), none⟩] [] [] [(15, 5, none)])
      (.cond (.s 15) (.reg [⟨.mv (.s 3), none⟩,
         ⟨.bin .sub (.r 0) (.c (.int .i64 20)), none⟩,
         ⟨.mv (.r 1), none⟩] [] [] [(4, 2, none)])
       (.skip)))
      (.seq (.reg [⟨.mv (.s 3), none⟩,
        ⟨.bin .geq (.r 0) (.c (.int .i64 8)), none⟩,
        ⟨.mv (.r 1), none⟩,
        ⟨.mv (.s 3), some (2, true)⟩,
        ⟨.bin .leq (.r 3) (.c (.int .i64 11)), some (2, true)⟩,
        ⟨.pick (.r 2) (.r 4) (.c (.bool false)), none⟩] [] [] [(16, 5, none)])
      (.cond (.s 16) (.reg [⟨.mv (.s 3), none⟩,
         ⟨.bin .sub (.r 0) (.c (.int .i64 7)), none⟩,
         ⟨.mv (.r 1), none⟩] [] [] [(4, 2, none)])
       (.skip))))))
      (.seq (.reg [⟨.bin .eql (.s 6) (.c (.int .i64 4)), none⟩,
        ⟨.mv (.r 0), none⟩] [] [] [(17, 1, none)])
      (.cond (.s 17) (.seq (.reg [⟨.mv (.s 3), none⟩,
         ⟨.bin .geq (.r 0) (.c (.int .i64 12)), none⟩] [] [] [(18, 1, none)])
       (.cond (.s 18) (.reg [⟨.mv (.s 3), none⟩,
          ⟨.mv (.r 0), none⟩] [] [] [(4, 1, none)])
        (.skip)))
       (.seq (.reg [⟨.bin .eql (.s 6) (.c (.int .i64 5)), none⟩,
         ⟨.mv (.r 0), none⟩] [] [] [(19, 1, none)])
       (.cond (.s 19) (.seq (.seq (.reg [⟨.mv (.s 3), none⟩,
          ⟨.bin .eql (.r 0) (.c (.int .i64 31)), none⟩] [] [] [(20, 1, none)])
        (.cond (.s 20) (.reg [⟨.mv (.c (.int .i64 20)), none⟩] [] [] [(4, 0, none)])
         (.skip)))
        (.seq (.seq (.reg [⟨.mv (.s 3), none⟩,
          ⟨.bin .geq (.r 0) (.c (.int .i64 12)), none⟩,
          ⟨.mv (.r 1), none⟩,
          ⟨.mv (.s 3), some (2, true)⟩,
          ⟨.bin .leq (.r 3) (.c (.int .i64 19)), some (2, true)⟩,
          ⟨.pick (.r 2) (.r 4) (.c (.bool false)), none⟩] [] [] [(21, 5, none)])
        (.cond (.s 21) (.reg [⟨.mv (.s 3), none⟩,
           ⟨.mv (.r 0), none⟩] [] [] [(4, 1, none)])
         (.skip)))
        (.seq (.seq (.reg [⟨.mv (.s 3), none⟩,
          ⟨.bin .eql (.r 0) (.c (.int .i64 20)), none⟩] [] [] [(22, 1, none)])
        (.cond (.s 22) (.reg [⟨.mv (.c (.int .i64 11)), none⟩] [] [] [(4, 0, none)])
         (.skip)))
        (.seq (.reg [⟨.mv (.s 3), none⟩,
          ⟨.bin .geq (.r 0) (.c (.int .i64 21)), none⟩,
          ⟨.mv (.r 1), none⟩,
          ⟨.mv (.s 3), some (2, true)⟩,
          ⟨.bin .leq (.r 3) (.c (.int .i64 30)), some (2, true)⟩,
          ⟨.pick (.r 2) (.r 4) (.c (.bool false)), none⟩] [] [] [(23, 5, none)])
        (.cond (.s 23) (.reg [⟨.mv (.s 3), none⟩,
           ⟨.bin .sub (.r 0) (.c (.int .i64 20)), none⟩,
           ⟨.mv (.r 1), none⟩] [] [] [(4, 2, none)])
         (.skip))))))
        (.skip)))))))))))))
  (.reg [⟨.mv (.s 3), none⟩,
    ⟨.mv (.s 4), none⟩,
    ⟨.iaA 32 1 (.s 2) (.r 0), none⟩,
    ⟨.store 0 1 (.r 2) (.r 1), none⟩] [] [] []))))
 (.reg [⟨.mv (.s 3), none⟩,
   ⟨.bin .add (.r 0) (.c (.int .i64 1)), none⟩,
   ⟨.mv (.r 1), none⟩] [] [] [(3, 2, none)]))
def ir_undertowref04_Places : Vm.Fn := ⟨[0, 2, 3, 4, 5, 7, 10, 11, 14, 17, 20, 28, 31, 34, 36, 42, 50, 53, 56, 58, 61, 67, 70, 76], 2, 0, [.cell 1 true 32],
 .seq (.reg [⟨.lalloc 0 [.int .i64 0, .int .i64 0, .int .i64 0, .int .i64 0, .int .i64 0, .int .i64 0, .int .i64 0, .int .i64 0, .int .i64 0, .int .i64 0, .int .i64 0, .int .i64 0, .int .i64 0, .int .i64 0, .int .i64 0, .int .i64 0, .int .i64 0, .int .i64 0, .int .i64 0, .int .i64 0, .int .i64 0, .int .i64 0, .int .i64 0, .int .i64 0, .int .i64 0, .int .i64 0, .int .i64 0, .int .i64 0, .int .i64 0, .int .i64 0, .int .i64 0, .int .i64 0], none⟩] [(true, 0)] [] [(1, 0, some 1)])
 (.seq (.reg [⟨.lalloc 1 [.int .i64 0, .int .i64 0, .int .i64 0, .int .i64 0, .int .i64 0, .int .i64 0, .int .i64 0, .int .i64 0, .int .i64 0, .int .i64 0, .int .i64 0, .int .i64 0, .int .i64 0, .int .i64 0, .int .i64 0, .int .i64 0, .int .i64 0, .int .i64 0, .int .i64 0, .int .i64 0, .int .i64 0, .int .i64 0, .int .i64 0, .int .i64 0, .int .i64 0, .int .i64 0, .int .i64 0, .int .i64 0, .int .i64 0, .int .i64 0, .int .i64 0, .int .i64 0], none⟩] [(true, 1)] [] [(2, 0, some 3)])
 (.seq (.seq (.reg [⟨.mv (.c (.int .i64 0)), none⟩] [] [] [(3, 0, none)])
 (.block 0 (.loop ir_undertowref04_Placesl0)))
 (.seq (.reg [⟨.load 0 true 32 (.s 2), none⟩,
   ⟨.store 0 32 (.s 1) (.r 0), none⟩] [] [] [])
 (.ret))))⟩
/-- 18: undertow/word.Field -/
def h18 : Vm.Hint := ⟨[0, 1, 2, 6, 17], [], [], [[0], [0, 0, 0, 0, 0, 0, 0, 0, 0, 0, 0], [0], [0, 0, 0, 0, 0, 0, 0, 0, 0, 0, 0]]⟩
def ir_word_Field : Vm.Fn := ⟨[0, 1, 2, 6, 17], 0, 0, [.slot 3],
 .seq (.reg [⟨.mv (.c (.int .u32 0)), none⟩] [] [] [(3, 0, none)])
 (.seq (.seq (.reg [⟨.mv (.s 1), none⟩,
   ⟨.bin .gtr (.r 0) (.c (.int .i64 31)), none⟩,
   ⟨.mv (.r 1), none⟩,
   ⟨.mv (.s 2), some (2, false)⟩,
   ⟨.mv (.s 1), some (2, false)⟩,
   ⟨.bin .gtr (.r 3) (.r 4), some (2, false)⟩,
   ⟨.pick (.r 2) (.c (.bool true)) (.r 5), none⟩,
   ⟨.mv (.r 6), none⟩,
   ⟨.mv (.s 2), some (7, false)⟩,
   ⟨.bin .lss (.r 8) (.c (.int .i64 0)), some (7, false)⟩,
   ⟨.pick (.r 7) (.c (.bool true)) (.r 9), none⟩] [] [] [(4, 10, none)])
 (.cond (.s 4) (.seq (.reg [⟨.mv (.c (.int .u32 0)), none⟩] [] [] [(3, 0, none)])
  (.ret))
  (.skip)))
 (.seq (.reg [⟨.mv (.s 0), none⟩,
   ⟨.i2i .u64 (.r 0), none⟩,
   ⟨.mv (.s 2), none⟩,
   ⟨.bin .shr (.r 1) (.r 2), none⟩,
   ⟨.mv (.s 1), none⟩,
   ⟨.mv (.s 2), none⟩,
   ⟨.bin .sub (.r 4) (.r 5), none⟩,
   ⟨.bin .add (.r 6) (.c (.int .i64 1)), none⟩,
   ⟨.call .val n_word_Zext [(.r 3), (.r 7)], none⟩,
   ⟨.i2i .u32 (.r 8), none⟩,
   ⟨.mv (.r 9), none⟩] [] [] [(3, 10, none)])
 (.ret)))⟩
/-- 19: undertow/field.layouts -/
def h19 : Vm.Hint := ⟨[0], [0], [], [[1], [0, 0, 0, 0, 0, 0, 0, 0, 0, 0, 0, 0, 0, 0, 0, 0, 0, 0, 0, 0, 0, 0, 0, 0]]⟩
def ir_field_layouts : Vm.Fn := ⟨[0], 1, 0, [.cell 0 true 18],
 .seq (.reg [⟨.lalloc 0 [.int .i64 0, .int .i64 0, .nils, .int .i64 0, .int .i64 0, .nils, .int .i64 0, .int .i64 0, .nils, .int .i64 0, .int .i64 0, .nils, .int .i64 0, .int .i64 0, .nils, .int .i64 0, .int .i64 0, .nils], none⟩] [(true, 0)] [] [(0, 0, some 1)])
 (.seq (.reg [⟨.build [.int .i64 0, .int .i64 0, .int .i64 0] [(0, 1, (.c (.int .i64 31))), (1, 1, (.c (.int .i64 20))), (2, 1, (.c (.int .i64 0)))], none⟩,
   ⟨.lit 0 3 [[.int .i64 0, .int .i64 0, .int .i64 0]] [(0, (.r 0))], none⟩,
   ⟨.build [.int .i64 0, .int .i64 0, .nils] [(0, 1, (.c (.int .i64 12))), (1, 1, (.c (.int .i64 0))), (2, 1, (.r 1))], none⟩,
   ⟨.build [.int .i64 0, .int .i64 0, .int .i64 0] [(0, 1, (.c (.int .i64 31))), (1, 1, (.c (.int .i64 25))), (2, 1, (.c (.int .i64 5)))], none⟩,
   ⟨.build [.int .i64 0, .int .i64 0, .int .i64 0] [(0, 1, (.c (.int .i64 11))), (1, 1, (.c (.int .i64 7))), (2, 1, (.c (.int .i64 0)))], none⟩,
   ⟨.lit 0 3 [[.int .i64 0, .int .i64 0, .int .i64 0], [.int .i64 0, .int .i64 0, .int .i64 0]] [(0, (.r 3)), (1, (.r 4))], none⟩,
   ⟨.build [.int .i64 0, .int .i64 0, .nils] [(0, 1, (.c (.int .i64 12))), (1, 1, (.c (.int .i64 0))), (2, 1, (.r 5))], none⟩,
   ⟨.build [.int .i64 0, .int .i64 0, .int .i64 0] [(0, 1, (.c (.int .i64 31))), (1, 1, (.c (.int .i64 31))), (2, 1, (.c (.int .i64 12)))], none⟩,
   ⟨.build [.int .i64 0, .int .i64 0, .int .i64 0] [(0, 1, (.c (.int .i64 7))), (1, 1, (.c (.int .i64 7))), (2, 1, (.c (.int .i64 11)))], none⟩,
   ⟨.build [.int .i64 0, .int .i64 0, .int .i64 0] [(0, 1, (.c (.int .i64 30))), (1, 1, (.c (.int .i64 25))), (2, 1, (.c (.int .i64 5)))], none⟩,
   ⟨.build [.int .i64 0, .int .i64 0, .int .i64 0] [(0, 1, (.c (.int .i64 11))), (1, 1, (.c (.int .i64 8))), (2, 1, (.c (.int .i64 1)))], none⟩,
   ⟨.lit 0 3 [[.int .i64 0, .int .i64 0, .int .i64 0], [.int .i64 0, .int .i64 0, .int .i64 0], [.int .i64 0, .int .i64 0, .int .i64 0], [.int .i64 0, .int .i64 0, .int .i64 0]] [(0, (.r 7)), (1, (.r 8)), (2, (.r 9)), (3, (.r 10))], none⟩,
   ⟨.build [.int .i64 0, .int .i64 0, .nils] [(0, 1, (.c (.int .i64 13))), (1, 1, (.c (.int .i64 1))), (2, 1, (.r 11))], none⟩,
   ⟨.build [.int .i64 0, .int .i64 0, .int .i64 0] [(0, 1, (.c (.int .i64 31))), (1, 1, (.c (.int .i64 12))), (2, 1, (.c (.int .i64 12)))], none⟩,
   ⟨.lit 0 3 [[.int .i64 0, .int .i64 0, .int .i64 0]] [(0, (.r 13))], none⟩,
   ⟨.build [.int .i64 0, .int .i64 0, .nils] [(0, 1, (.c (.int .i64 32))), (1, 1, (.c (.int .i64 12))), (2, 1, (.r 14))], none⟩,
   ⟨.build [.int .i64 0, .int .i64 0, .int .i64 0] [(0, 1, (.c (.int .i64 31))), (1, 1, (.c (.int .i64 31))), (2, 1, (.c (.int .i64 20)))], none⟩,
   ⟨.build [.int .i64 0, .int .i64 0, .int .i64 0] [(0, 1, (.c (.int .i64 19))), (1, 1, (.c (.int .i64 12))), (2, 1, (.c (.int .i64 12)))], none⟩,
   ⟨.build [.int .i64 0, .int .i64 0, .int .i64 0] [(0, 1, (.c (.int .i64 20))), (1, 1, (.c (.int .i64 20))), (2, 1, (.c (.int .i64 11)))], none⟩,
   ⟨.build [.int .i64 0, .int .i64 0, .int .i64 0] [(0, 1, (.c (.int .i64 30))), (1, 1, (.c (.int .i64 21))), (2, 1, (.c (.int .i64 1)))], none⟩,
   ⟨.lit 0 3 [[.int .i64 0, .int .i64 0, .int .i64 0], [.int .i64 0, .int .i64 0, .int .i64 0], [.int .i64 0, .int .i64 0, .int .i64 0], [.int .i64 0, .int .i64 0, .int .i64 0]] [(0, (.r 16)), (1, (.r 17)), (2, (.r 18)), (3, (.r 19))], none⟩,
   ⟨.build [.int .i64 0, .int .i64 0, .nils] [(0, 1, (.c (.int .i64 21))), (1, 1, (.c (.int .i64 1))), (2, 1, (.r 20))], none⟩,
   ⟨.build [.int .i64 0, .int .i64 0, .nils, .int .i64 0, .int .i64 0, .nils, .int .i64 0, .int .i64 0, .nils, .int .i64 0, .int .i64 0, .nils, .int .i64 0, .int .i64 0, .nils, .int .i64 0, .int .i64 0, .nils] [(3, 3, (.r 2)), (6, 3, (.r 6)), (9, 3, (.r 12)), (12, 3, (.r 15)), (15, 3, (.r 21))], none⟩,
   ⟨.store 0 18 (.s 0) (.r 22), none⟩] [] [] [])
 (.ret))⟩
def hints (f : Nat) : Option Vm.Hint := if f < 11 then (if f < 7 then (if f < 5 then (if f < 4 then (if f = 3 then some h3 else none) else (if f = 4 then some h4 else none)) else (if f < 6 then (if f = 5 then some h5 else none) else (if f = 6 then some h6 else none))) else (if f < 9 then (if f < 8 then (if f = 7 then some h7 else none) else (if f = 8 then some h8 else none)) else (if f < 10 then (if f = 9 then some h9 else none) else (if f = 10 then some h10 else none)))) else (if f < 15 then (if f < 13 then (if f < 12 then (if f = 11 then some h11 else none) else (if f = 12 then some h12 else none)) else (if f < 14 then (if f = 13 then some h13 else none) else (if f = 14 then some h14 else none))) else (if f < 17 then (if f < 16 then (if f = 15 then some h15 else none) else (if f = 16 then some h16 else none)) else (if f < 18 then (if f = 17 then some h17 else none) else (if f < 19 then (if f = 18 then some h18 else none) else (if f = 19 then some h19 else none)))))
noncomputable abbrev pg : Vm.Pg := pgOf Go.Proofs.Try.prog hints
theorem fn_undertowlaw04_FieldPuts : pg.fn 3 = some ir_undertowlaw04_FieldPuts := by kernel_rfl
theorem fn_undertowlaw04_FieldGets : pg.fn 4 = some ir_undertowlaw04_FieldGets := by kernel_rfl
theorem fn_undertowlaw04_FieldBack : pg.fn 5 = some ir_undertowlaw04_FieldBack := by kernel_rfl
theorem fn_undertowlaw04_alive : pg.fn 6 = some ir_undertowlaw04_alive := by kernel_rfl
theorem fn_field_Put : pg.fn 7 = some ir_field_Put := by kernel_rfl
theorem fn_undertowref04_May : pg.fn 8 = some ir_undertowref04_May := by kernel_rfl
theorem fn_undertowref04_Put : pg.fn 9 = some ir_undertowref04_Put := by kernel_rfl
theorem fn_field_Get : pg.fn 10 = some ir_field_Get := by kernel_rfl
theorem fn_undertowref04_Get : pg.fn 11 = some ir_undertowref04_Get := by kernel_rfl
theorem fn_field_Mask : pg.fn 12 = some ir_field_Mask := by kernel_rfl
theorem fn_undertowref04_Mask : pg.fn 13 = some ir_undertowref04_Mask := by kernel_rfl
theorem fn_field_of : pg.fn 14 = some ir_field_of := by kernel_rfl
theorem fn_word_Sext : pg.fn 15 = some ir_word_Sext := by kernel_rfl
theorem fn_word_Zext : pg.fn 16 = some ir_word_Zext := by kernel_rfl
theorem fn_undertowref04_Places : pg.fn 17 = some ir_undertowref04_Places := by kernel_rfl
theorem fn_word_Field : pg.fn 18 = some ir_word_Field := by kernel_rfl
theorem fn_field_layouts : pg.fn 19 = some ir_field_layouts := by kernel_rfl
def irL : List (Nat × Vm.Fn) := [(3, ir_undertowlaw04_FieldPuts), (4, ir_undertowlaw04_FieldGets), (5, ir_undertowlaw04_FieldBack), (6, ir_undertowlaw04_alive), (7, ir_field_Put), (8, ir_undertowref04_May), (9, ir_undertowref04_Put), (10, ir_field_Get), (11, ir_undertowref04_Get), (12, ir_field_Mask), (13, ir_undertowref04_Mask), (14, ir_field_of), (15, ir_word_Sext), (16, ir_word_Zext), (17, ir_undertowref04_Places), (18, ir_word_Field), (19, ir_field_layouts)]
theorem irL_ok : ∀ q ∈ irL, pg.fn q.1 = some q.2 := by
  simp only [irL, List.forall_mem_cons]
  exact ⟨fn_undertowlaw04_FieldPuts, fn_undertowlaw04_FieldGets, fn_undertowlaw04_FieldBack, fn_undertowlaw04_alive, fn_field_Put, fn_undertowref04_May, fn_undertowref04_Put, fn_field_Get, fn_undertowref04_Get, fn_field_Mask, fn_undertowref04_Mask, fn_field_of, fn_word_Sext, fn_word_Zext, fn_undertowref04_Places, fn_word_Field, fn_field_layouts, by simp⟩
end Go.Proofs.Ytgcpojicidaphaa
