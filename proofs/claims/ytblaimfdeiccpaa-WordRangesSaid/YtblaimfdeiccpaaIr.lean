/- The functions' own form, printed by a tool of this session out of the given translation. -/
import Derived.Test.YtblaimfdeiccpaaVf
import Derived.Test.YtblaimfdeiccpaaChecked
import Derived.KernelRfl
namespace Go.Proofs.Ytblaimfdeiccpaa
open Go Go.Vm
abbrev n_undertowlaw01_WordExtends : Nat := 3
abbrev n_undertowlaw01_WordFields : Nat := 4
abbrev n_undertowlaw01_WordRanges : Nat := 5
abbrev n_undertowlaw01_WordBytes : Nat := 6
abbrev n_undertowlaw01_WordBack : Nat := 7
abbrev n_undertowlaw01_alive : Nat := 8
abbrev n_word_Zext : Nat := 9
abbrev n_undertowref01_Zext : Nat := 10
abbrev n_word_Sext : Nat := 11
abbrev n_undertowref01_Sext : Nat := 12
abbrev n_word_Field : Nat := 13
abbrev n_undertowref01_Field : Nat := 14
abbrev n_word_Overlap : Nat := 15
abbrev n_undertowref01_Overlap : Nat := 16
abbrev n_word_Aligned : Nat := 17
abbrev n_undertowref01_Aligned : Nat := 18
abbrev n_undertowref01_SameBytes : Nat := 19
abbrev n_word_Bytes : Nat := 20
abbrev n_undertowref01_Bytes : Nat := 21
abbrev n_word_Of : Nat := 22
abbrev n_undertowref01_Of : Nat := 23
abbrev n_word_isRange : Nat := 24
/-- 3: undertow/undertowlaw01.WordExtends -/
def h3 : Vm.Hint := ⟨[0, 1, 4, 5, 7, 9, 27], [], [], [[0], [0, 0], [0], [0], [0, 0], [0, 0, 0], [0, 0, 0, 0, 0, 0, 0, 0, 0, 0, 0, 0, 0, 0, 0, 0], [0], [0, 0, 0, 0, 0, 0, 0, 0, 0, 0, 0, 0, 0, 0, 0, 0, 0]]⟩
def ir_undertowlaw01_WordExtendsl0 : C :=
 .seq (.seq (.reg [⟨.mv (.s 3), none⟩,
   ⟨.bin .lss (.r 0) (.c (.int .i64 67)), none⟩] [] [] [(5, 1, none)])
 (.cond (.s 5) (.skip)
  (.exit 0)))
 (.seq (.block 1 (.seq (.reg [⟨.mv (.s 0), none⟩,
    ⟨.mv (.s 3), none⟩,
    ⟨.call .val n_word_Zext [(.r 0), (.r 1)], none⟩,
    ⟨.mv (.s 0), none⟩,
    ⟨.mv (.s 3), none⟩,
    ⟨.call .val n_undertowref01_Zext [(.r 3), (.r 4)], none⟩,
    ⟨.bin .neq (.r 2) (.r 5), none⟩,
    ⟨.mv (.r 6), none⟩,
    ⟨.mv (.s 0), some (7, false)⟩,
    ⟨.mv (.s 3), some (7, false)⟩,
    ⟨.call .val n_word_Sext [(.r 8), (.r 9)], some (7, false)⟩,
    ⟨.mv (.s 0), some (7, false)⟩,
    ⟨.mv (.s 3), some (7, false)⟩,
    ⟨.call .val n_undertowref01_Sext [(.r 11), (.r 12)], some (7, false)⟩,
    ⟨.bin .neq (.r 10) (.r 13), some (7, false)⟩,
    ⟨.pick (.r 7) (.c (.bool true)) (.r 14), none⟩] [] [] [(6, 15, none)])
  (.cond (.s 6) (.seq (.reg [⟨.mv (.c (.bool false)), none⟩] [] [] [(2, 0, none)])
   (.ret))
   (.skip))))
 (.reg [⟨.mv (.s 3), none⟩,
   ⟨.bin .add (.r 0) (.c (.int .i64 1)), none⟩,
   ⟨.mv (.r 1), none⟩] [] [] [(3, 2, none)]))
def ir_undertowlaw01_WordExtends : Vm.Fn := ⟨[0, 1, 4, 5, 7, 9, 27], 0, 0, [.slot 2],
 .seq (.reg [⟨.mv (.c (.bool false)), none⟩] [] [] [(2, 0, none)])
 (.seq (.seq (.reg [⟨.call .val n_undertowlaw01_alive [], none⟩,
   ⟨.un .not (.r 0), none⟩] [] [] [(4, 1, none)])
 (.cond (.s 4) (.seq (.reg [⟨.mv (.c (.bool false)), none⟩] [] [] [(2, 0, none)])
  (.ret))
  (.skip)))
 (.seq (.seq (.reg [⟨.mv (.c (.int .i64 (-1))), none⟩] [] [] [(3, 0, none)])
 (.block 0 (.loop ir_undertowlaw01_WordExtendsl0)))
 (.seq (.reg [⟨.mv (.s 0), none⟩,
   ⟨.mv (.s 1), none⟩,
   ⟨.call .val n_word_Zext [(.r 0), (.r 1)], none⟩,
   ⟨.mv (.s 0), none⟩,
   ⟨.mv (.s 1), none⟩,
   ⟨.call .val n_undertowref01_Zext [(.r 3), (.r 4)], none⟩,
   ⟨.bin .eql (.r 2) (.r 5), none⟩,
   ⟨.mv (.r 6), none⟩,
   ⟨.mv (.s 0), some (7, true)⟩,
   ⟨.mv (.s 1), some (7, true)⟩,
   ⟨.call .val n_word_Sext [(.r 8), (.r 9)], some (7, true)⟩,
   ⟨.mv (.s 0), some (7, true)⟩,
   ⟨.mv (.s 1), some (7, true)⟩,
   ⟨.call .val n_undertowref01_Sext [(.r 11), (.r 12)], some (7, true)⟩,
   ⟨.bin .eql (.r 10) (.r 13), some (7, true)⟩,
   ⟨.pick (.r 7) (.r 14) (.c (.bool false)), none⟩,
   ⟨.mv (.r 15), none⟩] [] [] [(2, 16, none)])
 (.ret))))⟩
/-- 4: undertow/undertowlaw01.WordFields -/
def h4 : Vm.Hint := ⟨[0, 1, 2, 6, 8], [], [], [[0], [0, 0], [0], [0, 0, 0, 0, 0, 0, 0, 0, 0, 0]]⟩
def ir_undertowlaw01_WordFields : Vm.Fn := ⟨[0, 1, 2, 6, 8], 0, 0, [.slot 3],
 .seq (.reg [⟨.mv (.c (.bool false)), none⟩] [] [] [(3, 0, none)])
 (.seq (.seq (.reg [⟨.call .val n_undertowlaw01_alive [], none⟩,
   ⟨.un .not (.r 0), none⟩] [] [] [(4, 1, none)])
 (.cond (.s 4) (.seq (.reg [⟨.mv (.c (.bool false)), none⟩] [] [] [(3, 0, none)])
  (.ret))
  (.skip)))
 (.seq (.reg [⟨.mv (.s 0), none⟩,
   ⟨.mv (.s 1), none⟩,
   ⟨.mv (.s 2), none⟩,
   ⟨.call .val n_word_Field [(.r 0), (.r 1), (.r 2)], none⟩,
   ⟨.mv (.s 0), none⟩,
   ⟨.mv (.s 1), none⟩,
   ⟨.mv (.s 2), none⟩,
   ⟨.call .val n_undertowref01_Field [(.r 4), (.r 5), (.r 6)], none⟩,
   ⟨.bin .eql (.r 3) (.r 7), none⟩,
   ⟨.mv (.r 8), none⟩] [] [] [(3, 9, none)])
 (.ret)))⟩
/-- 5: undertow/undertowlaw01.WordRanges -/
def h5 : Vm.Hint := ⟨[0, 1, 2, 3, 8, 10], [], [], [[0], [0, 0], [0], [0, 0, 0, 0, 0, 0, 0, 0, 0, 0, 0, 0, 0, 0, 0, 0, 0, 0, 0, 0, 0]]⟩
def ir_undertowlaw01_WordRanges : Vm.Fn := ⟨[0, 1, 2, 3, 8, 10], 0, 0, [.slot 4],
 .seq (.reg [⟨.mv (.c (.bool false)), none⟩] [] [] [(4, 0, none)])
 (.seq (.seq (.reg [⟨.call .val n_undertowlaw01_alive [], none⟩,
   ⟨.un .not (.r 0), none⟩] [] [] [(5, 1, none)])
 (.cond (.s 5) (.seq (.reg [⟨.mv (.c (.bool false)), none⟩] [] [] [(4, 0, none)])
  (.ret))
  (.skip)))
 (.seq (.reg [⟨.mv (.s 0), none⟩,
   ⟨.mv (.s 1), none⟩,
   ⟨.mv (.s 2), none⟩,
   ⟨.mv (.s 3), none⟩,
   ⟨.call .val n_word_Overlap [(.r 0), (.r 1), (.r 2), (.r 3)], none⟩,
   ⟨.mv (.s 0), none⟩,
   ⟨.mv (.s 1), none⟩,
   ⟨.mv (.s 2), none⟩,
   ⟨.mv (.s 3), none⟩,
   ⟨.call .val n_undertowref01_Overlap [(.r 5), (.r 6), (.r 7), (.r 8)], none⟩,
   ⟨.eqb false (.r 4) (.r 9), none⟩,
   ⟨.mv (.r 10), none⟩,
   ⟨.mv (.s 0), some (11, true)⟩,
   ⟨.mv (.s 1), some (11, true)⟩,
   ⟨.call .val n_word_Aligned [(.r 12), (.r 13)], some (11, true)⟩,
   ⟨.mv (.s 0), some (11, true)⟩,
   ⟨.mv (.s 1), some (11, true)⟩,
   ⟨.call .val n_undertowref01_Aligned [(.r 15), (.r 16)], some (11, true)⟩,
   ⟨.eqb false (.r 14) (.r 17), some (11, true)⟩,
   ⟨.pick (.r 11) (.r 18) (.c (.bool false)), none⟩,
   ⟨.mv (.r 19), none⟩] [] [] [(4, 20, none)])
 (.ret)))⟩
/-- 6: undertow/undertowlaw01.WordBytes -/
def h6 : Vm.Hint := ⟨[0, 1, 2, 6, 8], [], [], [[0], [0, 0], [0], [0, 0, 0, 0, 0, 0, 0, 0, 0, 0, 0, 0, 0, 0, 0]]⟩
def ir_undertowlaw01_WordBytes : Vm.Fn := ⟨[0, 1, 2, 6, 8], 0, 0, [.slot 3],
 .seq (.reg [⟨.mv (.c (.bool false)), none⟩] [] [] [(3, 0, none)])
 (.seq (.seq (.reg [⟨.call .val n_undertowlaw01_alive [], none⟩,
   ⟨.un .not (.r 0), none⟩] [] [] [(4, 1, none)])
 (.cond (.s 4) (.seq (.reg [⟨.mv (.c (.bool false)), none⟩] [] [] [(3, 0, none)])
  (.ret))
  (.skip)))
 (.seq (.reg [⟨.mv (.s 0), none⟩,
   ⟨.mv (.s 1), none⟩,
   ⟨.call .val n_word_Bytes [(.r 0), (.r 1)], none⟩,
   ⟨.mv (.s 0), none⟩,
   ⟨.mv (.s 1), none⟩,
   ⟨.call .val n_undertowref01_Bytes [(.r 3), (.r 4)], none⟩,
   ⟨.call .val n_undertowref01_SameBytes [(.r 2), (.r 5)], none⟩,
   ⟨.mv (.r 6), none⟩,
   ⟨.mv (.s 2), some (7, true)⟩,
   ⟨.call .val n_word_Of [(.r 8)], some (7, true)⟩,
   ⟨.mv (.s 2), some (7, true)⟩,
   ⟨.call .val n_undertowref01_Of [(.r 10)], some (7, true)⟩,
   ⟨.bin .eql (.r 9) (.r 11), some (7, true)⟩,
   ⟨.pick (.r 7) (.r 12) (.c (.bool false)), none⟩,
   ⟨.mv (.r 13), none⟩] [] [] [(3, 14, none)])
 (.ret)))⟩
/-- 7: undertow/undertowlaw01.WordBack -/
def h7 : Vm.Hint := ⟨[0, 1, 2, 3, 4, 10, 11, 13, 16, 18], [], [], [[0], [0, 0], [0], [0, 0], [0, 0], [0], [0, 0], [0], [0, 0, 0, 0, 0, 0, 0, 0, 0, 0, 0, 0, 0, 0, 0, 0, 0, 0, 0, 0, 0, 0, 0, 0, 0, 0, 0, 0, 0, 0, 0, 0, 0, 0, 0, 0, 0, 0, 0, 0, 0, 0, 0, 0, 0]]⟩
def ir_undertowlaw01_WordBack : Vm.Fn := ⟨[0, 1, 2, 3, 4, 10, 11, 13, 16, 18], 0, 0, [.slot 5],
 .seq (.reg [⟨.mv (.c (.bool false)), none⟩] [] [] [(5, 0, none)])
 (.seq (.seq (.reg [⟨.call .val n_undertowlaw01_alive [], none⟩,
   ⟨.un .not (.r 0), none⟩] [] [] [(7, 1, none)])
 (.cond (.s 7) (.seq (.reg [⟨.mv (.c (.bool false)), none⟩] [] [] [(5, 0, none)])
  (.ret))
  (.skip)))
 (.seq (.reg [⟨.mv (.s 1), none⟩,
   ⟨.mv (.r 0), none⟩] [] [] [(6, 1, none)])
 (.seq (.seq (.reg [⟨.mv (.s 6), none⟩,
   ⟨.bin .gtr (.r 0) (.c (.int .i64 8)), none⟩] [] [] [(8, 1, none)])
 (.cond (.s 8) (.reg [⟨.mv (.c (.int .i64 8)), none⟩] [] [] [(6, 0, none)])
  (.skip)))
 (.seq (.seq (.reg [⟨.mv (.s 6), none⟩,
   ⟨.bin .lss (.r 0) (.c (.int .i64 0)), none⟩] [] [] [(9, 1, none)])
 (.cond (.s 9) (.reg [⟨.mv (.c (.int .i64 0)), none⟩] [] [] [(6, 0, none)])
  (.skip)))
 (.seq (.reg [⟨.mv (.s 0), none⟩,
   ⟨.mv (.s 1), none⟩,
   ⟨.call .val n_word_Bytes [(.r 0), (.r 1)], none⟩,
   ⟨.call .val n_word_Of [(.r 2)], none⟩,
   ⟨.mv (.s 0), none⟩,
   ⟨.mv (.s 6), none⟩,
   ⟨.bin .mul (.c (.int .i64 8)) (.r 5), none⟩,
   ⟨.call .val n_word_Zext [(.r 4), (.r 6)], none⟩,
   ⟨.bin .eql (.r 3) (.r 7), none⟩,
   ⟨.mv (.r 8), none⟩,
   ⟨.mv (.s 0), some (9, true)⟩,
   ⟨.mv (.s 1), some (9, true)⟩,
   ⟨.call .val n_word_Sext [(.r 10), (.r 11)], some (9, true)⟩,
   ⟨.mv (.s 1), some (9, true)⟩,
   ⟨.call .val n_word_Sext [(.r 12), (.r 13)], some (9, true)⟩,
   ⟨.mv (.s 0), some (9, true)⟩,
   ⟨.mv (.s 1), some (9, true)⟩,
   ⟨.call .val n_word_Sext [(.r 15), (.r 16)], some (9, true)⟩,
   ⟨.bin .eql (.r 14) (.r 17), some (9, true)⟩,
   ⟨.pick (.r 9) (.r 18) (.c (.bool false)), none⟩,
   ⟨.mv (.r 19), none⟩,
   ⟨.mv (.s 0), some (20, true)⟩,
   ⟨.mv (.s 1), some (20, true)⟩,
   ⟨.call .val n_word_Sext [(.r 21), (.r 22)], some (20, true)⟩,
   ⟨.mv (.s 1), some (20, true)⟩,
   ⟨.call .val n_word_Zext [(.r 23), (.r 24)], some (20, true)⟩,
   ⟨.mv (.s 0), some (20, true)⟩,
   ⟨.mv (.s 1), some (20, true)⟩,
   ⟨.call .val n_word_Zext [(.r 26), (.r 27)], some (20, true)⟩,
   ⟨.bin .eql (.r 25) (.r 28), some (20, true)⟩,
   ⟨.pick (.r 20) (.r 29) (.c (.bool false)), none⟩,
   ⟨.mv (.r 30), none⟩,
   ⟨.mv (.s 2), some (31, true)⟩,
   ⟨.mv (.s 1), some (31, true)⟩,
   ⟨.mv (.s 3), some (31, true)⟩,
   ⟨.mv (.s 4), some (31, true)⟩,
   ⟨.call .val n_word_Overlap [(.r 32), (.r 33), (.r 34), (.r 35)], some (31, true)⟩,
   ⟨.mv (.s 3), some (31, true)⟩,
   ⟨.mv (.s 4), some (31, true)⟩,
   ⟨.mv (.s 2), some (31, true)⟩,
   ⟨.mv (.s 1), some (31, true)⟩,
   ⟨.call .val n_word_Overlap [(.r 37), (.r 38), (.r 39), (.r 40)], some (31, true)⟩,
   ⟨.eqb false (.r 36) (.r 41), some (31, true)⟩,
   ⟨.pick (.r 31) (.r 42) (.c (.bool false)), none⟩,
   ⟨.mv (.r 43), none⟩] [] [] [(5, 44, none)])
 (.ret))))))⟩
/-- 8: undertow/undertowlaw01.alive -/
def h8 : Vm.Hint := ⟨[0], [], [], [[0], [0, 0, 0, 0, 0, 0, 0, 0, 0, 0, 0, 0, 0, 0, 0]]⟩
def ir_undertowlaw01_alive : Vm.Fn := ⟨[0], 0, 0, [.slot 0],
 .seq (.reg [⟨.mv (.c (.bool false)), none⟩] [] [] [(0, 0, none)])
 (.seq (.reg [⟨.call .val n_word_Sext [(.c (.int .u64 128)), (.c (.int .i64 8))], none⟩,
   ⟨.bin .eql (.r 0) (.c (.int .u64 18446744073709551488)), none⟩,
   ⟨.mv (.r 1), none⟩,
   ⟨.call .val n_word_Field [(.c (.int .u32 2882343476)), (.c (.int .i64 15)), (.c (.int .i64 8))], some (2, true)⟩,
   ⟨.bin .eql (.r 3) (.c (.int .u32 18)), some (2, true)⟩,
   ⟨.pick (.r 2) (.r 4) (.c (.bool false)), none⟩,
   ⟨.mv (.r 5), none⟩,
   ⟨.lit 0 1 [[.int .u8 0], [.int .u8 0]] [(0, (.c (.int .u8 2))), (1, (.c (.int .u8 1)))], some (6, true)⟩,
   ⟨.call .val n_word_Of [(.r 7)], some (6, true)⟩,
   ⟨.bin .eql (.r 8) (.c (.int .u64 258)), some (6, true)⟩,
   ⟨.pick (.r 6) (.r 9) (.c (.bool false)), none⟩,
   ⟨.mv (.r 10), none⟩,
   ⟨.call .val n_word_Overlap [(.c (.int .i64 0)), (.c (.int .i64 4)), (.c (.int .i64 3)), (.c (.int .i64 1))], some (11, true)⟩,
   ⟨.pick (.r 11) (.r 12) (.c (.bool false)), none⟩,
   ⟨.mv (.r 13), none⟩] [] [] [(0, 14, none)])
 (.ret))⟩
/-- 9: undertow/word.Zext -/
def h9 : Vm.Hint := ⟨[0, 1, 4, 5, 8], [], [], [[0], [0, 0, 0], [0], [0, 0, 0], [0, 0], [0, 0, 0, 0, 0, 0]]⟩
def ir_word_Zext : Vm.Fn := ⟨[0, 1, 4, 5, 8], 0, 0, [.slot 2],
 .seq (.reg [⟨.mv (.c (.int .u64 0)), none⟩] [] [] [(2, 0, none)])
 (.seq (.block 0 (.seq (.reg [⟨.mv (.s 1), none⟩,
    ⟨.bin .lss (.r 0) (.c (.int .i64 1)), none⟩,
    ⟨.mv (.r 1), none⟩] [] [] [(3, 2, none)])
  (.cond (.s 3) (.seq (.reg [⟨.mv (.c (.int .u64 0)), none⟩] [] [] [(2, 0, none)])
   (.ret))
   (.seq (.reg [⟨.mv (.s 1), none⟩,
     ⟨.bin .geq (.r 0) (.c (.int .i64 64)), none⟩,
     ⟨.mv (.r 1), none⟩] [] [] [(4, 2, none)])
   (.cond (.s 4) (.seq (.reg [⟨.mv (.s 0), none⟩,
      ⟨.mv (.r 0), none⟩] [] [] [(2, 1, none)])
    (.ret))
    (.skip))))))
 (.seq (.reg [⟨.mv (.s 0), none⟩,
   ⟨.mv (.s 1), none⟩,
   ⟨.bin .shl (.c (.int .u64 1)) (.r 1), none⟩,
   ⟨.bin .sub (.r 2) (.c (.int .u64 1)), none⟩,
   ⟨.bin .and (.r 0) (.r 3), none⟩,
   ⟨.mv (.r 4), none⟩] [] [] [(2, 5, none)])
 (.ret)))⟩
/-- 10: undertow/undertowref01.Zext -/
def h10 : Vm.Hint := ⟨[0, 1, 4, 5, 6, 13, 21], [], [], [[0], [0], [0], [0, 0, 0, 0, 0, 0, 0], [0, 0, 0], [0, 0, 0, 0, 0, 0], [0, 0, 0, 0, 0, 0], [0, 0]]⟩
def ir_undertowref01_Zextl0 : C :=
 .seq (.seq (.reg [⟨.mv (.s 4), none⟩,
   ⟨.bin .lss (.r 0) (.c (.int .i64 64)), none⟩,
   ⟨.mv (.r 1), none⟩,
   ⟨.mv (.s 4), some (2, true)⟩,
   ⟨.mv (.s 1), some (2, true)⟩,
   ⟨.bin .lss (.r 3) (.r 4), some (2, true)⟩,
   ⟨.pick (.r 2) (.r 5) (.c (.bool false)), none⟩] [] [] [(5, 6, none)])
 (.cond (.s 5) (.skip)
  (.exit 0)))
 (.seq (.block 1 (.seq (.reg [⟨.mv (.s 0), none⟩,
    ⟨.mv (.s 4), none⟩,
    ⟨.i2i .u64 (.r 1), none⟩,
    ⟨.bin .shr (.r 0) (.r 2), none⟩,
    ⟨.bin .and (.r 3) (.c (.int .u64 1)), none⟩,
    ⟨.bin .eql (.r 4) (.c (.int .u64 1)), none⟩] [] [] [(6, 5, none)])
  (.cond (.s 6) (.reg [⟨.mv (.s 3), none⟩,
     ⟨.mv (.s 4), none⟩,
     ⟨.i2i .u64 (.r 1), none⟩,
     ⟨.bin .shl (.c (.int .u64 1)) (.r 2), none⟩,
     ⟨.bin .add (.r 0) (.r 3), none⟩,
     ⟨.mv (.r 4), none⟩] [] [] [(3, 5, none)])
   (.skip))))
 (.reg [⟨.mv (.s 4), none⟩,
   ⟨.bin .add (.r 0) (.c (.int .i64 1)), none⟩,
   ⟨.mv (.r 1), none⟩] [] [] [(4, 2, none)]))
def ir_undertowref01_Zext : Vm.Fn := ⟨[0, 1, 4, 5, 6, 13, 21], 0, 0, [.slot 2],
 .seq (.reg [⟨.mv (.c (.int .u64 0)), none⟩] [] [] [(2, 0, none)])
 (.seq (.reg [⟨.mv (.c (.int .u64 0)), none⟩] [] [] [(3, 0, none)])
 (.seq (.seq (.reg [⟨.mv (.c (.int .i64 0)), none⟩] [] [] [(4, 0, none)])
 (.block 0 (.loop ir_undertowref01_Zextl0)))
 (.seq (.reg [⟨.mv (.s 3), none⟩,
   ⟨.mv (.r 0), none⟩] [] [] [(2, 1, none)])
 (.ret))))⟩
/-- 11: undertow/word.Sext -/
def h11 : Vm.Hint := ⟨[0, 1, 4, 10], [], [], [[0], [0, 0, 0, 0, 0, 0], [0, 0, 0, 0], [0, 0, 0, 0, 0, 0, 0, 0, 0, 0]]⟩
def ir_word_Sext : Vm.Fn := ⟨[0, 1, 4, 10], 0, 0, [.slot 2],
 .seq (.reg [⟨.mv (.c (.int .u64 0)), none⟩] [] [] [(2, 0, none)])
 (.seq (.seq (.reg [⟨.mv (.s 1), none⟩,
   ⟨.bin .lss (.r 0) (.c (.int .i64 1)), none⟩,
   ⟨.mv (.r 1), none⟩,
   ⟨.mv (.s 1), some (2, false)⟩,
   ⟨.bin .geq (.r 3) (.c (.int .i64 64)), some (2, false)⟩,
   ⟨.pick (.r 2) (.c (.bool true)) (.r 4), none⟩] [] [] [(3, 5, none)])
 (.cond (.s 3) (.seq (.reg [⟨.mv (.s 0), none⟩,
    ⟨.mv (.s 1), none⟩,
    ⟨.call .val n_word_Zext [(.r 0), (.r 1)], none⟩,
    ⟨.mv (.r 2), none⟩] [] [] [(2, 3, none)])
  (.ret))
  (.skip)))
 (.seq (.reg [⟨.mv (.s 0), none⟩,
   ⟨.mv (.s 1), none⟩,
   ⟨.bin .sub (.c (.int .i64 64)) (.r 1), none⟩,
   ⟨.bin .shl (.r 0) (.r 2), none⟩,
   ⟨.i2i .i64 (.r 3), none⟩,
   ⟨.mv (.s 1), none⟩,
   ⟨.bin .sub (.c (.int .i64 64)) (.r 5), none⟩,
   ⟨.bin .shr (.r 4) (.r 6), none⟩,
   ⟨.i2i .u64 (.r 7), none⟩,
   ⟨.mv (.r 8), none⟩] [] [] [(2, 9, none)])
 (.ret)))⟩
/-- 12: undertow/undertowref01.Sext -/
def h12 : Vm.Hint := ⟨[0, 1, 4, 5, 6, 24, 28], [], [], [[0], [0, 0, 0, 0], [0, 0, 0, 0, 0, 0, 0, 0, 0, 0, 0, 0, 0, 0, 0], [0, 0], [0, 0], [0, 0], [0, 0, 0], [0, 0, 0, 0, 0, 0], [0, 0]]⟩
def ir_undertowref01_Sextl0 : C :=
 .seq (.seq (.reg [⟨.mv (.s 4), none⟩,
   ⟨.bin .lss (.r 0) (.c (.int .i64 64)), none⟩] [] [] [(6, 1, none)])
 (.cond (.s 6) (.skip)
  (.exit 0)))
 (.seq (.block 1 (.reg [⟨.mv (.s 3), none⟩,
    ⟨.mv (.s 4), none⟩,
    ⟨.i2i .u64 (.r 1), none⟩,
    ⟨.bin .shl (.c (.int .u64 1)) (.r 2), none⟩,
    ⟨.bin .add (.r 0) (.r 3), none⟩,
    ⟨.mv (.r 4), none⟩] [] [] [(3, 5, none)]))
 (.reg [⟨.mv (.s 4), none⟩,
   ⟨.bin .add (.r 0) (.c (.int .i64 1)), none⟩,
   ⟨.mv (.r 1), none⟩] [] [] [(4, 2, none)]))
def ir_undertowref01_Sext : Vm.Fn := ⟨[0, 1, 4, 5, 6, 24, 28], 0, 0, [.slot 2],
 .seq (.reg [⟨.mv (.c (.int .u64 0)), none⟩] [] [] [(2, 0, none)])
 (.seq (.reg [⟨.mv (.s 0), none⟩,
   ⟨.mv (.s 1), none⟩,
   ⟨.call .val n_undertowref01_Zext [(.r 0), (.r 1)], none⟩,
   ⟨.mv (.r 2), none⟩] [] [] [(3, 3, none)])
 (.seq (.seq (.reg [⟨.mv (.s 1), none⟩,
   ⟨.bin .lss (.r 0) (.c (.int .i64 1)), none⟩,
   ⟨.mv (.r 1), none⟩,
   ⟨.mv (.s 1), some (2, false)⟩,
   ⟨.bin .gtr (.r 3) (.c (.int .i64 64)), some (2, false)⟩,
   ⟨.pick (.r 2) (.c (.bool true)) (.r 4), none⟩,
   ⟨.mv (.r 5), none⟩,
   ⟨.mv (.s 0), some (6, false)⟩,
   ⟨.mv (.s 1), some (6, false)⟩,
   ⟨.bin .sub (.r 8) (.c (.int .i64 1)), some (6, false)⟩,
   ⟨.i2i .u64 (.r 9), some (6, false)⟩,
   ⟨.bin .shr (.r 7) (.r 10), some (6, false)⟩,
   ⟨.bin .and (.r 11) (.c (.int .u64 1)), some (6, false)⟩,
   ⟨.bin .eql (.r 12) (.c (.int .u64 0)), some (6, false)⟩,
   ⟨.pick (.r 6) (.c (.bool true)) (.r 13), none⟩] [] [] [(5, 14, none)])
 (.cond (.s 5) (.seq (.reg [⟨.mv (.s 3), none⟩,
    ⟨.mv (.r 0), none⟩] [] [] [(2, 1, none)])
  (.ret))
  (.skip)))
 (.seq (.seq (.reg [⟨.mv (.s 1), none⟩,
   ⟨.mv (.r 0), none⟩] [] [] [(4, 1, none)])
 (.block 0 (.loop ir_undertowref01_Sextl0)))
 (.seq (.reg [⟨.mv (.s 3), none⟩,
   ⟨.mv (.r 0), none⟩] [] [] [(2, 1, none)])
 (.ret)))))⟩
/-- 13: undertow/word.Field -/
def h13 : Vm.Hint := ⟨[0, 1, 2, 6, 17], [], [], [[0], [0, 0, 0, 0, 0, 0, 0, 0, 0, 0, 0], [0], [0, 0, 0, 0, 0, 0, 0, 0, 0, 0, 0]]⟩
def ir_word_Field : Vm.Fn := ⟨[0, 1, 2, 6, 17], 0, 0, [.slot 3],
 .seq (.reg [⟨.mv (.c (.int .u32 0)), none⟩] [] [] [(3, 0, none)])
 (.seq (.seq (.reg [⟨.mv (.s 1), none⟩,
   ⟨.bin .gtr (.r 0) (.c (.int .i64 31)), none⟩,
   ⟨.mv (.r 1), none⟩,
   ⟨.mv (.s 2), some (2, false)⟩,
   ⟨.mv (.s 1), some (2, false)⟩,
   ⟨.bin .gtr (.r 3) (.r 4), some (2, false)⟩,
   ⟨.pick (.r 2) (.c (.bool true)) (.r 5), none⟩,
   ⟨.mv (.r 6), none⟩,
   ⟨.mv (.s 2), some (7, false)⟩,
   ⟨.bin .lss (.r 8) (.c (.int .i64 0)), some (7, false)⟩,
   ⟨.pick (.r 7) (.c (.bool true)) (.r 9), none⟩] [] [] [(4, 10, none)])
 (.cond (.s 4) (.seq (.reg [⟨.mv (.c (.int .u32 0)), none⟩] [] [] [(3, 0, none)])
  (.ret))
  (.skip)))
 (.seq (.reg [⟨.mv (.s 0), none⟩,
   ⟨.i2i .u64 (.r 0), none⟩,
   ⟨.mv (.s 2), none⟩,
   ⟨.bin .shr (.r 1) (.r 2), none⟩,
   ⟨.mv (.s 1), none⟩,
   ⟨.mv (.s 2), none⟩,
   ⟨.bin .sub (.r 4) (.r 5), none⟩,
   ⟨.bin .add (.r 6) (.c (.int .i64 1)), none⟩,
   ⟨.call .val n_word_Zext [(.r 3), (.r 7)], none⟩,
   ⟨.i2i .u32 (.r 8), none⟩,
   ⟨.mv (.r 9), none⟩] [] [] [(3, 10, none)])
 (.ret)))⟩
/-- 14: undertow/undertowref01.Field -/
def h14 : Vm.Hint := ⟨[0, 1, 2, 6, 7, 8, 19, 23], [], [], [[0], [0, 0, 0, 0, 0, 0, 0, 0, 0, 0, 0], [0], [0], [0, 0], [0, 0, 0], [0, 0, 0], [0, 0, 0, 0, 0, 0, 0, 0, 0], [0, 0]]⟩
def ir_undertowref01_Fieldl0 : C :=
 .seq (.seq (.reg [⟨.mv (.s 5), none⟩,
   ⟨.mv (.s 2), none⟩,
   ⟨.bin .geq (.r 0) (.r 1), none⟩] [] [] [(7, 2, none)])
 (.cond (.s 7) (.skip)
  (.exit 0)))
 (.seq (.block 1 (.reg [⟨.mv (.s 4), none⟩,
    ⟨.bin .mul (.c (.int .u32 2)) (.r 0), none⟩,
    ⟨.mv (.s 0), none⟩,
    ⟨.mv (.s 5), none⟩,
    ⟨.i2i .u64 (.r 3), none⟩,
    ⟨.bin .shr (.r 2) (.r 4), none⟩,
    ⟨.bin .and (.r 5) (.c (.int .u32 1)), none⟩,
    ⟨.bin .add (.r 1) (.r 6), none⟩,
    ⟨.mv (.r 7), none⟩] [] [] [(4, 8, none)]))
 (.reg [⟨.mv (.s 5), none⟩,
   ⟨.bin .sub (.r 0) (.c (.int .i64 1)), none⟩,
   ⟨.mv (.r 1), none⟩] [] [] [(5, 2, none)]))
def ir_undertowref01_Field : Vm.Fn := ⟨[0, 1, 2, 6, 7, 8, 19, 23], 0, 0, [.slot 3],
 .seq (.reg [⟨.mv (.c (.int .u32 0)), none⟩] [] [] [(3, 0, none)])
 (.seq (.seq (.reg [⟨.mv (.s 2), none⟩,
   ⟨.bin .lss (.r 0) (.c (.int .i64 0)), none⟩,
   ⟨.mv (.r 1), none⟩,
   ⟨.mv (.s 1), some (2, false)⟩,
   ⟨.bin .gtr (.r 3) (.c (.int .i64 31)), some (2, false)⟩,
   ⟨.pick (.r 2) (.c (.bool true)) (.r 4), none⟩,
   ⟨.mv (.r 5), none⟩,
   ⟨.mv (.s 2), some (6, false)⟩,
   ⟨.mv (.s 1), some (6, false)⟩,
   ⟨.bin .gtr (.r 7) (.r 8), some (6, false)⟩,
   ⟨.pick (.r 6) (.c (.bool true)) (.r 9), none⟩] [] [] [(6, 10, none)])
 (.cond (.s 6) (.seq (.reg [⟨.mv (.c (.int .u32 0)), none⟩] [] [] [(3, 0, none)])
  (.ret))
  (.skip)))
 (.seq (.reg [⟨.mv (.c (.int .u32 0)), none⟩] [] [] [(4, 0, none)])
 (.seq (.seq (.reg [⟨.mv (.s 1), none⟩,
   ⟨.mv (.r 0), none⟩] [] [] [(5, 1, none)])
 (.block 0 (.loop ir_undertowref01_Fieldl0)))
 (.seq (.reg [⟨.mv (.s 4), none⟩,
   ⟨.mv (.r 0), none⟩] [] [] [(3, 1, none)])
 (.ret)))))⟩
/-- 15: undertow/word.Overlap -/
def h15 : Vm.Hint := ⟨[0, 1, 2, 3, 8, 9, 10, 11, 21, 22, 23, 24, 26, 27, 28, 36], [], [], [[0], [0, 0, 0, 0, 0, 0, 0, 0, 0, 0], [0], [0], [0, 0], [0], [0, 0], [0, 0], [0], [0, 0], [0, 0, 0, 0, 0, 0, 0], [0], [0, 0], [0, 0], [0, 0]]⟩
def ir_word_Overlapl0 : C :=
 .seq (.reg [⟨.bin .lss (.s 13) (.s 12), none⟩] [] [] [(14, 0, none)])
 (.seq (.cond (.s 14) (.skip)
  (.exit 2))
 (.seq (.block 3 (.seq (.reg [⟨.mv (.s 13), none⟩,
    ⟨.mv (.r 0), none⟩] [] [] [(7, 1, none)])
  (.seq (.reg [⟨.mv (.s 0), none⟩,
    ⟨.mv (.s 6), none⟩,
    ⟨.bin .add (.r 0) (.r 1), none⟩,
    ⟨.mv (.s 2), none⟩,
    ⟨.mv (.s 7), none⟩,
    ⟨.bin .add (.r 3) (.r 4), none⟩,
    ⟨.bin .eql (.r 2) (.r 5), none⟩] [] [] [(15, 6, none)])
  (.cond (.s 15) (.seq (.reg [⟨.mv (.c (.bool true)), none⟩] [] [] [(5, 0, none)])
   (.exit 0))
   (.skip)))))
 (.reg [⟨.bin .add (.s 13) (.c (.int .i64 1)), none⟩,
   ⟨.mv (.r 0), none⟩] [] [] [(13, 1, none)])))
def ir_word_Overlapl1 : C :=
 .seq (.reg [⟨.bin .lss (.s 10) (.s 9), none⟩] [] [] [(11, 0, none)])
 (.seq (.cond (.s 11) (.skip)
  (.exit 0))
 (.seq (.block 1 (.seq (.reg [⟨.mv (.s 10), none⟩,
    ⟨.mv (.r 0), none⟩] [] [] [(6, 1, none)])
  (.seq (.reg [⟨.mv (.s 3), none⟩,
    ⟨.mv (.c (.int .i64 0)), none⟩] [] [] [(12, 0, none), (13, 1, none)])
  (.block 2 (.loop ir_word_Overlapl0)))))
 (.reg [⟨.bin .add (.s 10) (.c (.int .i64 1)), none⟩,
   ⟨.mv (.r 0), none⟩] [] [] [(10, 1, none)])))
def ir_word_Overlap : Vm.Fn := ⟨[0, 1, 2, 3, 8, 9, 10, 11, 21, 22, 23, 24, 26, 27, 28, 36], 0, 0, [.slot 4],
 .seq (.reg [⟨.mv (.c (.bool false)), none⟩] [] [] [(4, 0, none)])
 (.seq (.seq (.reg [⟨.mv (.s 0), none⟩,
   ⟨.mv (.s 1), none⟩,
   ⟨.call .val n_word_isRange [(.r 0), (.r 1)], none⟩,
   ⟨.un .not (.r 2), none⟩,
   ⟨.mv (.r 3), none⟩,
   ⟨.mv (.s 2), some (4, false)⟩,
   ⟨.mv (.s 3), some (4, false)⟩,
   ⟨.call .val n_word_isRange [(.r 5), (.r 6)], some (4, false)⟩,
   ⟨.un .not (.r 7), some (4, false)⟩,
   ⟨.pick (.r 4) (.c (.bool true)) (.r 8), none⟩] [] [] [(8, 9, none)])
 (.cond (.s 8) (.seq (.reg [⟨.mv (.c (.bool false)), none⟩] [] [] [(4, 0, none)])
  (.ret))
  (.skip)))
 (.seq (.reg [⟨.mv (.c (.bool false)), none⟩] [] [] [(5, 0, none)])
 (.seq (.seq (.reg [⟨.mv (.s 1), none⟩,
   ⟨.mv (.c (.int .i64 0)), none⟩] [] [] [(9, 0, none), (10, 1, none)])
 (.block 0 (.loop ir_word_Overlapl1)))
 (.seq (.reg [⟨.mv (.s 5), none⟩,
   ⟨.mv (.r 0), none⟩] [] [] [(4, 1, none)])
 (.ret)))))⟩
/-- 16: undertow/undertowref01.Overlap -/
def h16 : Vm.Hint := ⟨[0, 1, 2, 3, 8, 38], [], [], [[0], [0, 0, 0, 0, 0, 0, 0, 0, 0, 0, 0, 0, 0, 0, 0, 0, 0, 0, 0, 0, 0, 0, 0, 0, 0, 0, 0, 0, 0, 0], [0], [0, 0, 0, 0, 0, 0, 0, 0, 0, 0, 0, 0, 0]]⟩
def ir_undertowref01_Overlap : Vm.Fn := ⟨[0, 1, 2, 3, 8, 38], 0, 0, [.slot 4],
 .seq (.reg [⟨.mv (.c (.bool false)), none⟩] [] [] [(4, 0, none)])
 (.seq (.seq (.reg [⟨.mv (.s 0), none⟩,
   ⟨.bin .lss (.r 0) (.c (.int .i64 0)), none⟩,
   ⟨.mv (.r 1), none⟩,
   ⟨.mv (.s 2), some (2, false)⟩,
   ⟨.bin .lss (.r 3) (.c (.int .i64 0)), some (2, false)⟩,
   ⟨.pick (.r 2) (.c (.bool true)) (.r 4), none⟩,
   ⟨.mv (.r 5), none⟩,
   ⟨.mv (.s 0), some (6, false)⟩,
   ⟨.bin .gtr (.r 7) (.c (.int .i64 1099511627776)), some (6, false)⟩,
   ⟨.pick (.r 6) (.c (.bool true)) (.r 8), none⟩,
   ⟨.mv (.r 9), none⟩,
   ⟨.mv (.s 2), some (10, false)⟩,
   ⟨.bin .gtr (.r 11) (.c (.int .i64 1099511627776)), some (10, false)⟩,
   ⟨.pick (.r 10) (.c (.bool true)) (.r 12), none⟩,
   ⟨.mv (.r 13), none⟩,
   ⟨.mv (.s 1), some (14, false)⟩,
   ⟨.bin .lss (.r 15) (.c (.int .i64 1)), some (14, false)⟩,
   ⟨.pick (.r 14) (.c (.bool true)) (.r 16), none⟩,
   ⟨.mv (.r 17), none⟩,
   ⟨.mv (.s 1), some (18, false)⟩,
   ⟨.bin .gtr (.r 19) (.c (.int .i64 8)), some (18, false)⟩,
   ⟨.pick (.r 18) (.c (.bool true)) (.r 20), none⟩,
   ⟨.mv (.r 21), none⟩,
   ⟨.mv (.s 3), some (22, false)⟩,
   ⟨.bin .lss (.r 23) (.c (.int .i64 1)), some (22, false)⟩,
   ⟨.pick (.r 22) (.c (.bool true)) (.r 24), none⟩,
   ⟨.mv (.r 25), none⟩,
   ⟨.mv (.s 3), some (26, false)⟩,
   ⟨.bin .gtr (.r 27) (.c (.int .i64 8)), some (26, false)⟩,
   ⟨.pick (.r 26) (.c (.bool true)) (.r 28), none⟩] [] [] [(5, 29, none)])
 (.cond (.s 5) (.seq (.reg [⟨.mv (.c (.bool false)), none⟩] [] [] [(4, 0, none)])
  (.ret))
  (.skip)))
 (.seq (.reg [⟨.mv (.s 0), none⟩,
   ⟨.mv (.s 2), none⟩,
   ⟨.mv (.s 3), none⟩,
   ⟨.bin .add (.r 1) (.r 2), none⟩,
   ⟨.bin .lss (.r 0) (.r 3), none⟩,
   ⟨.mv (.r 4), none⟩,
   ⟨.mv (.s 2), some (5, true)⟩,
   ⟨.mv (.s 0), some (5, true)⟩,
   ⟨.mv (.s 1), some (5, true)⟩,
   ⟨.bin .add (.r 7) (.r 8), some (5, true)⟩,
   ⟨.bin .lss (.r 6) (.r 9), some (5, true)⟩,
   ⟨.pick (.r 5) (.r 10) (.c (.bool false)), none⟩,
   ⟨.mv (.r 11), none⟩] [] [] [(4, 12, none)])
 (.ret)))⟩
/-- 17: undertow/word.Aligned -/
def h17 : Vm.Hint := ⟨[0, 1, 4, 5, 6], [], [], [[0], [0], [0, 0], [0, 0], [0, 0], [0, 0], [0, 0, 0, 0, 0, 0, 0, 0, 0], [0]]⟩
def ir_word_Aligned : Vm.Fn := ⟨[0, 1, 4, 5, 6], 0, 0, [.slot 2],
 .seq (.reg [⟨.mv (.c (.bool false)), none⟩] [] [] [(2, 0, none)])
 (.seq (.seq (.reg [⟨.mv (.s 1), none⟩] [] [] [(3, 0, none)])
 (.block 0 (.seq (.seq (.reg [⟨.bin .eql (.s 3) (.c (.int .i64 1)), none⟩,
    ⟨.mv (.r 0), none⟩] [] [] [(4, 1, none)])
  (.cond (.s 4) (.skip)
   (.seq (.reg [⟨.bin .eql (.s 3) (.c (.int .i64 2)), none⟩,
     ⟨.mv (.r 0), none⟩] [] [] [(4, 1, none)])
   (.cond (.s 4) (.skip)
    (.seq (.reg [⟨.bin .eql (.s 3) (.c (.int .i64 4)), none⟩,
      ⟨.mv (.r 0), none⟩] [] [] [(4, 1, none)])
    (.cond (.s 4) (.skip)
     (.reg [⟨.bin .eql (.s 3) (.c (.int .i64 8)), none⟩,
       ⟨.mv (.r 0), none⟩] [] [] [(4, 1, none)])))))))
  (.cond (.s 4) (.seq (.reg [⟨.mv (.s 0), none⟩,
     ⟨.bin .geq (.r 0) (.c (.int .i64 0)), none⟩,
     ⟨.mv (.r 1), none⟩,
     ⟨.mv (.s 0), some (2, true)⟩,
     ⟨.mv (.s 1), some (2, true)⟩,
     ⟨.bin .rem (.r 3) (.r 4), some (2, true)⟩,
     ⟨.bin .eql (.r 5) (.c (.int .i64 0)), some (2, true)⟩,
     ⟨.pick (.r 2) (.r 6) (.c (.bool false)), none⟩,
     ⟨.mv (.r 7), none⟩] [] [] [(2, 8, none)])
   (.ret))
   (.skip)))))
 (.seq (.reg [⟨.mv (.c (.bool false)), none⟩] [] [] [(2, 0, none)])
 (.ret)))⟩
/-- 18: undertow/undertowref01.Aligned -/
def h18 : Vm.Hint := ⟨[0, 1, 4], [], [], [[0], [0, 0, 0, 0, 0, 0, 0, 0, 0, 0, 0, 0, 0, 0, 0, 0, 0, 0, 0, 0, 0, 0, 0, 0, 0, 0, 0, 0]]⟩
def ir_undertowref01_Aligned : Vm.Fn := ⟨[0, 1, 4], 0, 0, [.slot 2],
 .seq (.reg [⟨.mv (.c (.bool false)), none⟩] [] [] [(2, 0, none)])
 (.seq (.reg [⟨.mv (.s 1), none⟩,
   ⟨.bin .eql (.r 0) (.c (.int .i64 1)), none⟩,
   ⟨.mv (.r 1), none⟩,
   ⟨.mv (.s 1), some (2, false)⟩,
   ⟨.bin .eql (.r 3) (.c (.int .i64 2)), some (2, false)⟩,
   ⟨.pick (.r 2) (.c (.bool true)) (.r 4), none⟩,
   ⟨.mv (.r 5), none⟩,
   ⟨.mv (.s 1), some (6, false)⟩,
   ⟨.bin .eql (.r 7) (.c (.int .i64 4)), some (6, false)⟩,
   ⟨.pick (.r 6) (.c (.bool true)) (.r 8), none⟩,
   ⟨.mv (.r 9), none⟩,
   ⟨.mv (.s 1), some (10, false)⟩,
   ⟨.bin .eql (.r 11) (.c (.int .i64 8)), some (10, false)⟩,
   ⟨.pick (.r 10) (.c (.bool true)) (.r 12), none⟩,
   ⟨.mv (.r 13), none⟩,
   ⟨.mv (.s 0), some (14, true)⟩,
   ⟨.bin .geq (.r 15) (.c (.int .i64 0)), some (14, true)⟩,
   ⟨.pick (.r 14) (.r 16) (.c (.bool false)), none⟩,
   ⟨.mv (.r 17), none⟩,
   ⟨.mv (.s 0), some (18, true)⟩,
   ⟨.mv (.s 1), some (18, true)⟩,
   ⟨.bin .quo (.r 19) (.r 20), some (18, true)⟩,
   ⟨.mv (.s 1), some (18, true)⟩,
   ⟨.bin .mul (.r 21) (.r 22), some (18, true)⟩,
   ⟨.mv (.s 0), some (18, true)⟩,
   ⟨.bin .eql (.r 23) (.r 24), some (18, true)⟩,
   ⟨.pick (.r 18) (.r 25) (.c (.bool false)), none⟩,
   ⟨.mv (.r 26), none⟩] [] [] [(2, 27, none)])
 (.ret))⟩
/-- 19: undertow/undertowref01.SameBytes -/
def h19 : Vm.Hint := ⟨[0, 1, 4, 5, 10, 14, 25], [], [], [[0], [0, 0, 0, 0, 0], [0], [0], [0, 0, 0, 0], [0, 0, 0], [0, 0, 0, 0, 0, 0, 0, 0, 0], [0], [0]]⟩
def ir_undertowref01_SameBytesl0 : C :=
 .seq (.seq (.reg [⟨.mv (.s 3), none⟩,
   ⟨.mv (.s 0), none⟩,
   ⟨.len 1 (.r 1), none⟩,
   ⟨.bin .lss (.r 0) (.r 2), none⟩] [] [] [(5, 3, none)])
 (.cond (.s 5) (.skip)
  (.exit 0)))
 (.seq (.block 1 (.seq (.reg [⟨.mv (.s 0), none⟩,
    ⟨.mv (.s 3), none⟩,
    ⟨.iaS 1 (.r 0) (.r 1), none⟩,
    ⟨.load 0 false 1 (.r 2), none⟩,
    ⟨.mv (.s 1), none⟩,
    ⟨.mv (.s 3), none⟩,
    ⟨.iaS 1 (.r 4) (.r 5), none⟩,
    ⟨.load 0 false 1 (.r 6), none⟩,
    ⟨.bin .neq (.r 3) (.r 7), none⟩] [] [(2, 6), (2, 7), (3, 6), (3, 7)] [(6, 8, none)])
  (.cond (.s 6) (.seq (.reg [⟨.mv (.c (.bool false)), none⟩] [] [] [(2, 0, none)])
   (.ret))
   (.skip))))
 (.reg [⟨.mv (.s 3), none⟩,
   ⟨.bin .add (.r 0) (.c (.int .i64 1)), none⟩,
   ⟨.mv (.r 1), none⟩] [] [] [(3, 2, none)]))
def ir_undertowref01_SameBytes : Vm.Fn := ⟨[0, 1, 4, 5, 10, 14, 25], 0, 0, [.slot 2],
 .seq (.reg [⟨.mv (.c (.bool false)), none⟩] [] [] [(2, 0, none)])
 (.seq (.seq (.reg [⟨.mv (.s 0), none⟩,
   ⟨.len 1 (.r 0), none⟩,
   ⟨.mv (.s 1), none⟩,
   ⟨.len 1 (.r 2), none⟩,
   ⟨.bin .neq (.r 1) (.r 3), none⟩] [] [] [(4, 4, none)])
 (.cond (.s 4) (.seq (.reg [⟨.mv (.c (.bool false)), none⟩] [] [] [(2, 0, none)])
  (.ret))
  (.skip)))
 (.seq (.seq (.reg [⟨.mv (.c (.int .i64 0)), none⟩] [] [] [(3, 0, none)])
 (.block 0 (.loop ir_undertowref01_SameBytesl0)))
 (.seq (.reg [⟨.mv (.c (.bool true)), none⟩] [] [] [(2, 0, none)])
 (.ret))))⟩
/-- 20: undertow/word.Bytes -/
def h20 : Vm.Hint := ⟨[0, 1, 4, 5, 7, 8, 9], [], [5], [[0], [1], [0, 0, 0], [0], [0, 0, 0, 1, 2, 0], [0, 0, 0], [0, 0], [0, 0]]⟩
def ir_word_Bytesl0 : C :=
 .seq (.reg [⟨.bin .lss (.s 5) (.s 4), none⟩] [] [] [(6, 0, none)])
 (.seq (.cond (.s 6) (.skip)
  (.exit 0))
 (.seq (.block 1 (.seq (.reg [⟨.mv (.s 3), none⟩,
    ⟨.mv (.s 0), none⟩,
    ⟨.i2i .u8 (.r 1), none⟩,
    ⟨.lit 1 1 [[.int .u8 0]] [(0, (.r 2))], none⟩,
    ⟨.app 2 1 1 (.r 0) (.r 3), none⟩,
    ⟨.mv (.r 4), none⟩] [] [] [(3, 5, some 0)])
  (.reg [⟨.mv (.s 0), none⟩,
    ⟨.bin .shr (.r 0) (.c (.int .u64 8)), none⟩,
    ⟨.mv (.r 1), none⟩] [] [] [(0, 2, none)])))
 (.reg [⟨.bin .add (.s 5) (.c (.int .i64 1)), none⟩,
   ⟨.mv (.r 0), none⟩] [] [] [(5, 1, none)])))
def ir_word_Bytes : Vm.Fn := ⟨[0, 1, 4, 5, 7, 8, 9], 0, 1, [.slot 2],
 .seq (.reg [⟨.mv (.c (.nils)), none⟩] [] [] [(2, 0, none)])
 (.seq (.reg [⟨.onil 0, none⟩] [(false, 0)] [] [(3, 0, some 0)])
 (.seq (.seq (.reg [⟨.mv (.s 1), none⟩,
   ⟨.min [(.r 0), (.c (.int .i64 8))], none⟩,
   ⟨.mv (.c (.int .i64 0)), none⟩] [] [] [(4, 1, none), (5, 2, none)])
 (.block 0 (.loop ir_word_Bytesl0)))
 (.seq (.reg [⟨.mv (.s 3), none⟩,
   ⟨.mv (.r 0), none⟩] [] [] [(2, 1, none)])
 (.ret))))⟩
/-- 21: undertow/undertowref01.Bytes -/
def h21 : Vm.Hint := ⟨[0, 1, 4, 5, 6, 13], [], [5], [[0], [1], [0], [0, 0, 0, 0, 0, 0, 0], [0, 0, 0], [0, 0, 0, 0, 1, 2, 0], [0, 0, 0], [0, 0]]⟩
def ir_undertowref01_Bytesl0 : C :=
 .seq (.seq (.reg [⟨.mv (.s 4), none⟩,
   ⟨.mv (.s 1), none⟩,
   ⟨.bin .lss (.r 0) (.r 1), none⟩,
   ⟨.mv (.r 2), none⟩,
   ⟨.mv (.s 4), some (3, true)⟩,
   ⟨.bin .lss (.r 4) (.c (.int .i64 8)), some (3, true)⟩,
   ⟨.pick (.r 3) (.r 5) (.c (.bool false)), none⟩] [] [] [(5, 6, none)])
 (.cond (.s 5) (.skip)
  (.exit 0)))
 (.seq (.block 1 (.seq (.reg [⟨.mv (.s 3), none⟩,
    ⟨.mv (.s 0), none⟩,
    ⟨.bin .rem (.r 1) (.c (.int .u64 256)), none⟩,
    ⟨.i2i .u8 (.r 2), none⟩,
    ⟨.lit 1 1 [[.int .u8 0]] [(0, (.r 3))], none⟩,
    ⟨.app 2 1 1 (.r 0) (.r 4), none⟩,
    ⟨.mv (.r 5), none⟩] [] [] [(3, 6, some 0)])
  (.reg [⟨.mv (.s 0), none⟩,
    ⟨.bin .quo (.r 0) (.c (.int .u64 256)), none⟩,
    ⟨.mv (.r 1), none⟩] [] [] [(0, 2, none)])))
 (.reg [⟨.mv (.s 4), none⟩,
   ⟨.bin .add (.r 0) (.c (.int .i64 1)), none⟩,
   ⟨.mv (.r 1), none⟩] [] [] [(4, 2, none)]))
def ir_undertowref01_Bytes : Vm.Fn := ⟨[0, 1, 4, 5, 6, 13], 0, 1, [.slot 2],
 .seq (.reg [⟨.mv (.c (.nils)), none⟩] [] [] [(2, 0, none)])
 (.seq (.reg [⟨.onil 0, none⟩] [(false, 0)] [] [(3, 0, some 0)])
 (.seq (.seq (.reg [⟨.mv (.c (.int .i64 0)), none⟩] [] [] [(4, 0, none)])
 (.block 0 (.loop ir_undertowref01_Bytesl0)))
 (.seq (.reg [⟨.mv (.s 3), none⟩,
   ⟨.mv (.r 0), none⟩] [] [] [(2, 1, none)])
 (.ret))))⟩
/-- 22: undertow/word.Of -/
def h22 : Vm.Hint := ⟨[0, 2, 3, 4, 10], [], [], [[0], [0], [0, 0, 0, 0, 0], [0, 0], [0, 0, 0], [0, 0, 0, 0, 0, 0, 0, 0, 0], [0, 0]]⟩
def ir_word_Ofl0 : C :=
 .seq (.seq (.reg [⟨.mv (.s 3), none⟩,
   ⟨.bin .geq (.r 0) (.c (.int .i64 0)), none⟩] [] [] [(4, 1, none)])
 (.cond (.s 4) (.skip)
  (.exit 0)))
 (.seq (.block 1 (.reg [⟨.mv (.s 2), none⟩,
    ⟨.bin .shl (.r 0) (.c (.int .u64 8)), none⟩,
    ⟨.mv (.s 0), none⟩,
    ⟨.mv (.s 3), none⟩,
    ⟨.iaS 1 (.r 2) (.r 3), none⟩,
    ⟨.load 0 false 1 (.r 4), none⟩,
    ⟨.i2i .u64 (.r 5), none⟩,
    ⟨.bin .or (.r 1) (.r 6), none⟩,
    ⟨.mv (.r 7), none⟩] [] [] [(2, 8, none)]))
 (.reg [⟨.mv (.s 3), none⟩,
   ⟨.bin .sub (.r 0) (.c (.int .i64 1)), none⟩,
   ⟨.mv (.r 1), none⟩] [] [] [(3, 2, none)]))
def ir_word_Of : Vm.Fn := ⟨[0, 2, 3, 4, 10], 0, 0, [.slot 1],
 .seq (.reg [⟨.mv (.c (.int .u64 0)), none⟩] [] [] [(1, 0, none)])
 (.seq (.reg [⟨.mv (.c (.int .u64 0)), none⟩] [] [] [(2, 0, none)])
 (.seq (.seq (.reg [⟨.mv (.s 0), none⟩,
   ⟨.len 1 (.r 0), none⟩,
   ⟨.min [(.r 1), (.c (.int .i64 8))], none⟩,
   ⟨.bin .sub (.r 2) (.c (.int .i64 1)), none⟩,
   ⟨.mv (.r 3), none⟩] [] [] [(3, 4, none)])
 (.block 0 (.loop ir_word_Ofl0)))
 (.seq (.reg [⟨.mv (.s 2), none⟩,
   ⟨.mv (.r 0), none⟩] [] [] [(1, 1, none)])
 (.ret))))⟩
/-- 23: undertow/undertowref01.Of -/
def h23 : Vm.Hint := ⟨[0, 2, 3, 4, 5, 13], [], [], [[0], [0], [0], [0], [0, 0, 0, 0, 0, 0, 0, 0], [0, 0, 0], [0, 0, 0, 0, 0, 0, 0, 0, 0, 0], [0, 0, 0], [0, 0]]⟩
def ir_undertowref01_Ofl0 : C :=
 .seq (.seq (.reg [⟨.mv (.s 4), none⟩,
   ⟨.mv (.s 0), none⟩,
   ⟨.len 1 (.r 1), none⟩,
   ⟨.bin .lss (.r 0) (.r 2), none⟩,
   ⟨.mv (.r 3), none⟩,
   ⟨.mv (.s 4), some (4, true)⟩,
   ⟨.bin .lss (.r 5) (.c (.int .i64 8)), some (4, true)⟩,
   ⟨.pick (.r 4) (.r 6) (.c (.bool false)), none⟩] [] [] [(5, 7, none)])
 (.cond (.s 5) (.skip)
  (.exit 0)))
 (.seq (.block 1 (.seq (.reg [⟨.mv (.s 2), none⟩,
    ⟨.mv (.s 3), none⟩,
    ⟨.mv (.s 0), none⟩,
    ⟨.mv (.s 4), none⟩,
    ⟨.iaS 1 (.r 2) (.r 3), none⟩,
    ⟨.load 0 false 1 (.r 4), none⟩,
    ⟨.i2i .u64 (.r 5), none⟩,
    ⟨.bin .mul (.r 1) (.r 6), none⟩,
    ⟨.bin .add (.r 0) (.r 7), none⟩,
    ⟨.mv (.r 8), none⟩] [] [] [(2, 9, none)])
  (.reg [⟨.mv (.s 3), none⟩,
    ⟨.bin .mul (.r 0) (.c (.int .u64 256)), none⟩,
    ⟨.mv (.r 1), none⟩] [] [] [(3, 2, none)])))
 (.reg [⟨.mv (.s 4), none⟩,
   ⟨.bin .add (.r 0) (.c (.int .i64 1)), none⟩,
   ⟨.mv (.r 1), none⟩] [] [] [(4, 2, none)]))
def ir_undertowref01_Of : Vm.Fn := ⟨[0, 2, 3, 4, 5, 13], 0, 0, [.slot 1],
 .seq (.reg [⟨.mv (.c (.int .u64 0)), none⟩] [] [] [(1, 0, none)])
 (.seq (.reg [⟨.mv (.c (.int .u64 0)), none⟩] [] [] [(2, 0, none)])
 (.seq (.reg [⟨.mv (.c (.int .u64 1)), none⟩] [] [] [(3, 0, none)])
 (.seq (.seq (.reg [⟨.mv (.c (.int .i64 0)), none⟩] [] [] [(4, 0, none)])
 (.block 0 (.loop ir_undertowref01_Ofl0)))
 (.seq (.reg [⟨.mv (.s 2), none⟩,
   ⟨.mv (.r 0), none⟩] [] [] [(1, 1, none)])
 (.ret)))))⟩
/-- 24: undertow/word.isRange -/
def h24 : Vm.Hint := ⟨[0, 1, 4], [], [], [[0], [0, 0, 0, 0, 0, 0, 0, 0, 0, 0, 0, 0, 0, 0, 0]]⟩
def ir_word_isRange : Vm.Fn := ⟨[0, 1, 4], 0, 0, [.slot 2],
 .seq (.reg [⟨.mv (.c (.bool false)), none⟩] [] [] [(2, 0, none)])
 (.seq (.reg [⟨.mv (.s 0), none⟩,
   ⟨.bin .geq (.r 0) (.c (.int .i64 0)), none⟩,
   ⟨.mv (.r 1), none⟩,
   ⟨.mv (.s 0), some (2, true)⟩,
   ⟨.bin .leq (.r 3) (.c (.int .i64 1099511627776)), some (2, true)⟩,
   ⟨.pick (.r 2) (.r 4) (.c (.bool false)), none⟩,
   ⟨.mv (.r 5), none⟩,
   ⟨.mv (.s 1), some (6, true)⟩,
   ⟨.bin .geq (.r 7) (.c (.int .i64 1)), some (6, true)⟩,
   ⟨.pick (.r 6) (.r 8) (.c (.bool false)), none⟩,
   ⟨.mv (.r 9), none⟩,
   ⟨.mv (.s 1), some (10, true)⟩,
   ⟨.bin .leq (.r 11) (.c (.int .i64 8)), some (10, true)⟩,
   ⟨.pick (.r 10) (.r 12) (.c (.bool false)), none⟩,
   ⟨.mv (.r 13), none⟩] [] [] [(2, 14, none)])
 (.ret))⟩
def hints (f : Nat) : Option Vm.Hint := if f < 14 then (if f < 8 then (if f < 5 then (if f < 4 then (if f = 3 then some h3 else none) else (if f = 4 then some h4 else none)) else (if f < 6 then (if f = 5 then some h5 else none) else (if f < 7 then (if f = 6 then some h6 else none) else (if f = 7 then some h7 else none)))) else (if f < 11 then (if f < 9 then (if f = 8 then some h8 else none) else (if f < 10 then (if f = 9 then some h9 else none) else (if f = 10 then some h10 else none))) else (if f < 12 then (if f = 11 then some h11 else none) else (if f < 13 then (if f = 12 then some h12 else none) else (if f = 13 then some h13 else none))))) else (if f < 19 then (if f < 16 then (if f < 15 then (if f = 14 then some h14 else none) else (if f = 15 then some h15 else none)) else (if f < 17 then (if f = 16 then some h16 else none) else (if f < 18 then (if f = 17 then some h17 else none) else (if f = 18 then some h18 else none)))) else (if f < 22 then (if f < 20 then (if f = 19 then some h19 else none) else (if f < 21 then (if f = 20 then some h20 else none) else (if f = 21 then some h21 else none))) else (if f < 23 then (if f = 22 then some h22 else none) else (if f < 24 then (if f = 23 then some h23 else none) else (if f = 24 then some h24 else none)))))
noncomputable abbrev pg : Vm.Pg := pgOf Go.Proofs.Try.prog hints
theorem fn_undertowlaw01_WordExtends : pg.fn 3 = some ir_undertowlaw01_WordExtends := by kernel_rfl
theorem fn_undertowlaw01_WordFields : pg.fn 4 = some ir_undertowlaw01_WordFields := by kernel_rfl
theorem fn_undertowlaw01_WordRanges : pg.fn 5 = some ir_undertowlaw01_WordRanges := by kernel_rfl
theorem fn_undertowlaw01_WordBytes : pg.fn 6 = some ir_undertowlaw01_WordBytes := by kernel_rfl
theorem fn_undertowlaw01_WordBack : pg.fn 7 = some ir_undertowlaw01_WordBack := by kernel_rfl
theorem fn_undertowlaw01_alive : pg.fn 8 = some ir_undertowlaw01_alive := by kernel_rfl
theorem fn_word_Zext : pg.fn 9 = some ir_word_Zext := by kernel_rfl
theorem fn_undertowref01_Zext : pg.fn 10 = some ir_undertowref01_Zext := by kernel_rfl
theorem fn_word_Sext : pg.fn 11 = some ir_word_Sext := by kernel_rfl
theorem fn_undertowref01_Sext : pg.fn 12 = some ir_undertowref01_Sext := by kernel_rfl
theorem fn_word_Field : pg.fn 13 = some ir_word_Field := by kernel_rfl
theorem fn_undertowref01_Field : pg.fn 14 = some ir_undertowref01_Field := by kernel_rfl
theorem fn_word_Overlap : pg.fn 15 = some ir_word_Overlap := by kernel_rfl
theorem fn_undertowref01_Overlap : pg.fn 16 = some ir_undertowref01_Overlap := by kernel_rfl
theorem fn_word_Aligned : pg.fn 17 = some ir_word_Aligned := by kernel_rfl
theorem fn_undertowref01_Aligned : pg.fn 18 = some ir_undertowref01_Aligned := by kernel_rfl
theorem fn_undertowref01_SameBytes : pg.fn 19 = some ir_undertowref01_SameBytes := by kernel_rfl
theorem fn_word_Bytes : pg.fn 20 = some ir_word_Bytes := by kernel_rfl
theorem fn_undertowref01_Bytes : pg.fn 21 = some ir_undertowref01_Bytes := by kernel_rfl
theorem fn_word_Of : pg.fn 22 = some ir_word_Of := by kernel_rfl
theorem fn_undertowref01_Of : pg.fn 23 = some ir_undertowref01_Of := by kernel_rfl
theorem fn_word_isRange : pg.fn 24 = some ir_word_isRange := by kernel_rfl
def irL : List (Nat × Vm.Fn) := [(3, ir_undertowlaw01_WordExtends), (4, ir_undertowlaw01_WordFields), (5, ir_undertowlaw01_WordRanges), (6, ir_undertowlaw01_WordBytes), (7, ir_undertowlaw01_WordBack), (8, ir_undertowlaw01_alive), (9, ir_word_Zext), (10, ir_undertowref01_Zext), (11, ir_word_Sext), (12, ir_undertowref01_Sext), (13, ir_word_Field), (14, ir_undertowref01_Field), (15, ir_word_Overlap), (16, ir_undertowref01_Overlap), (17, ir_word_Aligned), (18, ir_undertowref01_Aligned), (19, ir_undertowref01_SameBytes), (20, ir_word_Bytes), (21, ir_undertowref01_Bytes), (22, ir_word_Of), (23, ir_undertowref01_Of), (24, ir_word_isRange)]
theorem irL_ok : ∀ q ∈ irL, pg.fn q.1 = some q.2 := by
  simp only [irL, List.forall_mem_cons]
  exact ⟨fn_undertowlaw01_WordExtends, fn_undertowlaw01_WordFields, fn_undertowlaw01_WordRanges, fn_undertowlaw01_WordBytes, fn_undertowlaw01_WordBack, fn_undertowlaw01_alive, fn_word_Zext, fn_undertowref01_Zext, fn_word_Sext, fn_undertowref01_Sext, fn_word_Field, fn_undertowref01_Field, fn_word_Overlap, fn_undertowref01_Overlap, fn_word_Aligned, fn_undertowref01_Aligned, fn_undertowref01_SameBytes, fn_word_Bytes, fn_undertowref01_Bytes, fn_word_Of, fn_undertowref01_Of, fn_word_isRange, by simp⟩
end Go.Proofs.Ytblaimfdeiccpaa
