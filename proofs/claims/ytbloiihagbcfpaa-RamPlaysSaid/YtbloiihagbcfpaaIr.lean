/- The functions' own form, printed by a tool of this session out of the given translation. -/
import Derived.Test.YtbloiihagbcfpaaVf
import Derived.Test.YtbloiihagbcfpaaChecked
import Derived.KernelRfl
namespace Go.Proofs.Ytbloiihagbcfpaa
open Go Go.Vm
abbrev n_undertowlaw12_RamHeld : Nat := 3
abbrev n_undertowlaw12_RamPlays : Nat := 4
abbrev n_undertowlaw12_RamNone : Nat := 5
abbrev n_undertowlaw12_RamLast : Nat := 6
abbrev n_undertowlaw12_alive : Nat := 7
abbrev n_ram_New : Nat := 8
abbrev n_ram_Ram_Reserve : Nat := 9
abbrev n_ram_Ram_Store : Nat := 10
abbrev n_undertowref01_Overlap : Nat := 11
abbrev n_ram_Ram_Held : Nat := 12
abbrev n_undertowref12_New : Nat := 13
abbrev n_undertowref12_Ram_Store : Nat := 14
abbrev n_undertowref12_Ram_Reserve : Nat := 15
abbrev n_ram_Ram_Drop : Nat := 16
abbrev n_undertowref12_Ram_Drop : Nat := 17
abbrev n_ram_Ram_Load : Nat := 18
abbrev n_undertowref12_Ram_May : Nat := 19
abbrev n_undertowref12_Ram_Load : Nat := 20
abbrev n_undertowref02_SameInts : Nat := 21
abbrev n_undertowref12_Ram_Has : Nat := 22
abbrev n_undertowlaw12_same : Nat := 23
abbrev n_ram_Ram_Bytes : Nat := 24
abbrev n_ram_Ram_Tags : Nat := 25
abbrev n_ram_Ram_Log : Nat := 26
abbrev n_slices_Clone_byte_byte : Nat := 27
abbrev n_ram_Ram_may : Nat := 28
abbrev n_ram_isHart : Nat := 29
abbrev n_word_Zext : Nat := 30
abbrev n_word_Bytes : Nat := 31
abbrev n_word_Overlap : Nat := 32
abbrev n_undertowref01_Zext : Nat := 33
abbrev n_word_Of : Nat := 34
abbrev n_slices_Clone_int_int : Nat := 35
abbrev n_undertowref01_Aligned : Nat := 36
abbrev n_undertowref12_Ram_Byte : Nat := 37
abbrev n_undertowref01_Of : Nat := 38
abbrev n_undertowref01_SameBytes : Nat := 39
abbrev n_undertowref12_Ram_Bytes : Nat := 40
abbrev n_undertowref12_Ram_Tags : Nat := 41
abbrev n_undertowref12_SameWrites : Nat := 42
abbrev n_slices_Clone_api_Write_api_Write : Nat := 43
abbrev n_word_Aligned : Nat := 44
abbrev n_word_isRange : Nat := 45
/-- 3: undertow/undertowlaw12.RamHeld -/
def h3 : Vm.Hint := ⟨[0, 1, 2, 5, 6, 7, 8, 9, 10, 11, 13, 16, 33, 64, 72], [5, 10], [], [[1, 0], [0, 0], [0], [0, 0, 0], [0, 0], [0, 1, 0], [0, 0, 0, 0, 0, 1, 0], [0], [0, 0, 0, 0, 0, 0, 0, 0], [0, 0, 0], [0, 0, 0, 0, 2, 0], [0, 0, 0, 0, 0, 1, 0], [0, 0, 0, 0, 0, 0, 0, 0, 0, 0, 0, 0, 0, 0, 0, 0, 0, 0, 0], [0], [0, 0, 0, 0, 0, 0, 0, 0], [0], [0, 0]], [([2, 4], []), ([], []), ([0, 1, 3, 10], [(true, 0)]), ([10], []), ([0, 1, 3, 11], [(true, 0)]), ([0, 11], []), ([], []), ([], []), ([], []), ([14], []), ([12], []), ([], []), ([8, 9], [(true, 1)]), ([13], []), ([13], []), ([1, 3, 5, 6, 7, 14], [(true, 0)]), ([1, 3, 5, 6, 7, 12], [(true, 0)])]⟩
def ir_undertowlaw12_RamHeldl0 : C :=
 .seq (.seq (.reg [⟨.mv (.s 7), none⟩,
   ⟨.mv (.s 1), none⟩,
   ⟨.len 1 (.r 1), none⟩,
   ⟨.bin .lss (.r 0) (.r 2), none⟩,
   ⟨.mv (.r 3), none⟩,
   ⟨.mv (.s 7), some (4, true)⟩,
   ⟨.bin .lss (.r 5) (.c (.int .i64 40)), some (4, true)⟩,
   ⟨.pick (.r 4) (.r 6) (.c (.bool false)), none⟩] [] [] [(12, 7, none)])
 (.cond (.s 12) (.skip)
  (.exit 0)))
 (.seq (.block 1 (.seq (.seq (.reg [⟨.mv (.s 1), none⟩,
    ⟨.mv (.s 7), none⟩,
    ⟨.iaS 6 (.r 0) (.r 1), none⟩,
    ⟨.load 0 true 6 (.r 2), none⟩,
    ⟨.lalloc 1 [.int .i64 0, .int .i64 0, .int .i64 0, .int .i64 0, .int .i64 0, .int .u64 0], none⟩,
    ⟨.store 0 6 (.r 4) (.r 3), none⟩] [(true, 1)] [] [(8, 4, some 3)])
  (.drop [12] []))
  (.seq (.reg [⟨.mv (.s 5), none⟩,
    ⟨.off 1 (.s 8), none⟩,
    ⟨.load 0 false 1 (.r 1), none⟩,
    ⟨.off 2 (.s 8), none⟩,
    ⟨.load 0 true 4 (.r 3), none⟩,
    ⟨.call .heap n_ram_Ram_Store [(.r 0), (.r 2), (.r 4)], none⟩,
    ⟨.mv (.r 5), none⟩] [] [] [(9, 6, none)])
  (.seq (.seq (.seq (.reg [⟨.mv (.s 9), none⟩,
    ⟨.mv (.r 0), none⟩,
    ⟨.off 1 (.s 8), some (1, true)⟩,
    ⟨.load 0 false 1 (.r 2), some (1, true)⟩,
    ⟨.bin .neq (.r 3) (.c (.int .i64 1)), some (1, true)⟩,
    ⟨.pick (.r 1) (.r 4) (.c (.bool false)), none⟩,
    ⟨.mv (.r 5), none⟩,
    ⟨.off 1 (.s 3), some (6, true)⟩,
    ⟨.load 0 false 1 (.r 7), some (6, true)⟩,
    ⟨.off 2 (.s 3), some (6, true)⟩,
    ⟨.load 0 false 1 (.r 9), some (6, true)⟩,
    ⟨.off 2 (.s 8), some (6, true)⟩,
    ⟨.off 1 (.r 11), some (6, true)⟩,
    ⟨.load 0 false 1 (.r 12), some (6, true)⟩,
    ⟨.off 2 (.s 8), some (6, true)⟩,
    ⟨.off 2 (.r 14), some (6, true)⟩,
    ⟨.load 0 false 1 (.r 15), some (6, true)⟩,
    ⟨.call .val n_undertowref01_Overlap [(.r 8), (.r 10), (.r 13), (.r 16)], some (6, true)⟩,
    ⟨.pick (.r 6) (.r 17) (.c (.bool false)), none⟩] [] [] [(13, 18, none)])
  (.drop [8, 9] [(true, 1)]))
  (.cond (.s 13) (.seq (.reg [⟨.mv (.c (.bool false)), none⟩] [] [] [(6, 0, none)])
   (.drop [13] []))
   (.skip)))
  (.seq (.seq (.reg [⟨.mv (.s 5), none⟩,
    ⟨.off 1 (.s 3), none⟩,
    ⟨.load 0 false 1 (.r 1), none⟩,
    ⟨.off 2 (.s 3), none⟩,
    ⟨.load 0 false 1 (.r 3), none⟩,
    ⟨.call .val n_ram_Ram_Held [(.r 0), (.c (.int .i64 1)), (.r 2), (.r 4)], none⟩,
    ⟨.mv (.s 6), none⟩,
    ⟨.eqb true (.r 5) (.r 6), none⟩] [] [] [(14, 7, none)])
  (.drop [13] []))
  (.cond (.s 14) (.seq (.seq (.reg [⟨.mv (.c (.bool false)), none⟩] [] [] [(4, 0, none)])
   (.drop [1, 3, 5, 6, 7, 14] [(true, 0)]))
   (.ret))
   (.skip)))))))
 (.seq (.reg [⟨.mv (.s 7), none⟩,
   ⟨.bin .add (.r 0) (.c (.int .i64 1)), none⟩,
   ⟨.mv (.r 1), none⟩] [] [] [(7, 2, none)])
 (.drop [14] [])))
def ir_undertowlaw12_RamHeld : Vm.Fn := ⟨[0, 1, 2, 5, 6, 7, 8, 9, 10, 11, 13, 16, 33, 64, 72], 2, 0, [.slot 4],
 .seq (.seq (.reg [⟨.lbox 0 4 (.s 2), none⟩,
   ⟨.mv (.c (.bool false)), none⟩] [(true, 0)] [] [(3, 0, some 1), (4, 1, none)])
 (.drop [2, 4] []))
 (.seq (.seq (.reg [⟨.call .val n_undertowlaw12_alive [], none⟩,
   ⟨.un .not (.r 0), none⟩] [] [] [(10, 1, none)])
 (.cond (.s 10) (.seq (.seq (.reg [⟨.mv (.c (.bool false)), none⟩] [] [] [(4, 0, none)])
  (.drop [0, 1, 3, 10] [(true, 0)]))
  (.ret))
  (.skip)))
 (.seq (.seq (.seq (.reg [⟨.mv (.s 0), none⟩,
   ⟨.len 1 (.r 0), none⟩,
   ⟨.bin .gtr (.r 1) (.c (.int .i64 200)), none⟩] [] [] [(11, 2, none)])
 (.drop [10] []))
 (.cond (.s 11) (.seq (.seq (.reg [⟨.call .val n_undertowlaw12_alive [], none⟩,
    ⟨.mv (.r 0), none⟩] [] [] [(4, 1, none)])
  (.drop [0, 1, 3, 11] [(true, 0)]))
  (.ret))
  (.skip)))
 (.seq (.seq (.reg [⟨.mv (.s 0), none⟩,
   ⟨.call .heap n_ram_New [(.r 0)], none⟩,
   ⟨.mv (.r 1), none⟩] [] [] [(5, 2, none)])
 (.drop [0, 11] []))
 (.seq (.reg [⟨.mv (.s 5), none⟩,
   ⟨.off 1 (.s 3), none⟩,
   ⟨.load 0 false 1 (.r 1), none⟩,
   ⟨.off 2 (.s 3), none⟩,
   ⟨.load 0 false 1 (.r 3), none⟩,
   ⟨.call .heap n_ram_Ram_Reserve [(.r 0), (.c (.int .i64 1)), (.r 2), (.r 4)], none⟩,
   ⟨.mv (.r 5), none⟩] [] [] [(6, 6, none)])
 (.seq (.seq (.reg [⟨.mv (.c (.int .i64 0)), none⟩] [] [] [(7, 0, none)])
 (.block 0 (.loop ir_undertowlaw12_RamHeldl0)))
 (.seq (.seq (.reg [⟨.call .val n_undertowlaw12_alive [], none⟩,
   ⟨.mv (.r 0), none⟩] [] [] [(4, 1, none)])
 (.drop [1, 3, 5, 6, 7, 12] [(true, 0)]))
 (.ret)))))))⟩
/-- 4: undertow/undertowlaw12.RamPlays -/
def h4 : Vm.Hint := ⟨[0, 1, 4, 5, 6, 7, 8, 9, 10, 11, 12, 13, 14, 16, 19, 32, 40, 41, 55, 56, 78, 79, 123, 124, 144, 146, 167], [8], [], [[0], [0, 0], [0], [0, 0, 0], [0, 0], [0, 1, 0, 1, 0, 0], [0], [0, 0, 0, 0, 0, 0, 0, 0], [0, 0, 0], [0, 0, 0, 0, 1, 0], [0, 0], [0, 0], [0, 0, 0, 0, 0, 1, 0, 0, 0, 0, 0, 1, 0], [0], [0, 0], [0, 0, 0, 0, 0, 0, 0, 0, 0, 1, 0, 0, 0, 0, 0, 0, 0, 0, 0, 1, 0], [0], [0, 0], [0, 0, 0, 1], [0, 0, 0, 1], [0, 0, 0, 0, 0, 0, 0, 0, 0, 0, 0, 0, 0, 0, 0], [0, 0, 0, 0, 0, 0, 0, 0, 0, 0, 0, 0, 0, 0, 0, 0, 0, 0, 0, 0, 0, 0, 0], [0], [0], [0, 0, 0, 0, 0, 0, 0, 0, 0, 0, 0, 0, 0], [0, 0, 0, 0, 0, 0, 0, 0, 0], [0], [0], [0, 0], [0, 0, 0], [0, 0, 0, 0, 0, 0, 0, 0, 0, 0, 0, 0, 0, 0, 0, 0, 0, 0, 0], [0], [0, 0, 0, 0, 0, 0, 0]], [([2], []), ([], []), ([0, 1, 13], []), ([13], []), ([0, 1, 14], []), ([0, 14], []), ([], []), ([], []), ([6, 12, 25], [(true, 0)]), ([15], []), ([], []), ([], []), ([16, 17], []), ([1, 3, 4, 5, 6, 18], [(true, 0)]), ([17], []), ([16, 19], []), ([1, 3, 4, 5, 6, 20], [(true, 0)]), ([16, 19], []), ([21], []), ([], []), ([18, 20, 21], []), ([], []), ([1, 3, 4, 5, 6, 7, 8, 9, 22], [(true, 0)]), ([9, 22], []), ([23], []), ([7, 8, 10, 11], []), ([1, 3, 4, 5, 6, 24], [(true, 0)]), ([7, 8, 23, 24], []), ([], []), ([26], []), ([25], []), ([1, 3, 4, 5, 6, 12, 26], [(true, 0)]), ([1, 3, 4, 5, 15], [])]⟩
def ir_undertowlaw12_RamPlaysl0 : C :=
 .seq (.seq (.reg [⟨.mv (.s 12), none⟩,
   ⟨.bin .lss (.r 0) (.c (.int .i64 4)), none⟩] [] [] [(25, 1, none)])
 (.cond (.s 25) (.skip)
  (.exit 3)))
 (.seq (.block 4 (.seq (.seq (.reg [⟨.mv (.s 3), none⟩,
    ⟨.mv (.s 12), none⟩,
    ⟨.off 2 (.s 6), none⟩,
    ⟨.off 1 (.r 2), none⟩,
    ⟨.load 0 false 1 (.r 3), none⟩,
    ⟨.off 2 (.s 6), none⟩,
    ⟨.off 2 (.r 5), none⟩,
    ⟨.load 0 false 1 (.r 6), none⟩,
    ⟨.call .val n_ram_Ram_Held [(.r 0), (.r 1), (.r 4), (.r 7)], none⟩,
    ⟨.mv (.s 4), none⟩,
    ⟨.mv (.s 12), none⟩,
    ⟨.off 2 (.s 6), none⟩,
    ⟨.off 1 (.r 11), none⟩,
    ⟨.load 0 false 1 (.r 12), none⟩,
    ⟨.off 2 (.s 6), none⟩,
    ⟨.off 2 (.r 14), none⟩,
    ⟨.load 0 false 1 (.r 15), none⟩,
    ⟨.call .val n_undertowref12_Ram_Has [(.r 9), (.r 10), (.r 13), (.r 16)], none⟩,
    ⟨.eqb true (.r 8) (.r 17), none⟩] [] [(4, 7), (4, 13), (4, 16), (7, 13), (7, 16), (8, 13), (8, 16), (13, 16)] [(26, 18, none)])
  (.drop [25] []))
  (.cond (.s 26) (.seq (.seq (.reg [⟨.mv (.c (.bool false)), none⟩] [] [] [(2, 0, none)])
   (.drop [1, 3, 4, 5, 6, 12, 26] [(true, 0)]))
   (.ret))
   (.skip))))
 (.seq (.reg [⟨.mv (.s 12), none⟩,
   ⟨.bin .add (.r 0) (.c (.int .i64 1)), none⟩,
   ⟨.mv (.r 1), none⟩] [] [] [(12, 2, none)])
 (.drop [26] [])))
def ir_undertowlaw12_RamPlaysl1 : C :=
 .seq (.seq (.reg [⟨.mv (.s 5), none⟩,
   ⟨.mv (.s 1), none⟩,
   ⟨.len 1 (.r 1), none⟩,
   ⟨.bin .lss (.r 0) (.r 2), none⟩,
   ⟨.mv (.r 3), none⟩,
   ⟨.mv (.s 5), some (4, true)⟩,
   ⟨.bin .lss (.r 5) (.c (.int .i64 40)), some (4, true)⟩,
   ⟨.pick (.r 4) (.r 6) (.c (.bool false)), none⟩] [] [] [(15, 7, none)])
 (.cond (.s 15) (.skip)
  (.exit 0)))
 (.seq (.block 1 (.seq (.seq (.reg [⟨.mv (.s 1), none⟩,
    ⟨.mv (.s 5), none⟩,
    ⟨.iaS 6 (.r 0) (.r 1), none⟩,
    ⟨.load 0 true 6 (.r 2), none⟩,
    ⟨.lalloc 0 [.int .i64 0, .int .i64 0, .int .i64 0, .int .i64 0, .int .i64 0, .int .u64 0], none⟩,
    ⟨.store 0 6 (.r 4) (.r 3), none⟩] [(true, 0)] [] [(6, 4, some 1)])
  (.drop [15] []))
  (.seq (.seq (.reg [⟨.off 0 (.s 6), none⟩,
    ⟨.load 0 false 1 (.r 0), none⟩] [] [] [(16, 1, none)])
  (.block 2 (.seq (.reg [⟨.bin .eql (.s 16) (.c (.int .i64 0)), none⟩,
     ⟨.mv (.r 0), none⟩] [] [] [(17, 1, none)])
   (.cond (.s 17) (.seq (.seq (.reg [⟨.mv (.s 3), none⟩,
      ⟨.off 1 (.s 6), none⟩,
      ⟨.load 0 false 1 (.r 1), none⟩,
      ⟨.off 2 (.s 6), none⟩,
      ⟨.load 0 true 4 (.r 3), none⟩,
      ⟨.call .heap n_ram_Ram_Store [(.r 0), (.r 2), (.r 4)], none⟩,
      ⟨.mv (.s 4), none⟩,
      ⟨.off 1 (.s 6), none⟩,
      ⟨.load 0 false 1 (.r 7), none⟩,
      ⟨.off 2 (.s 6), none⟩,
      ⟨.load 0 true 4 (.r 9), none⟩,
      ⟨.call .heap n_undertowref12_Ram_Store [(.r 6), (.r 8), (.r 10)], none⟩,
      ⟨.eqb true (.r 5) (.r 11), none⟩] [] [(2, 4), (2, 8), (2, 10), (4, 8), (4, 10), (5, 8), (5, 10), (8, 10)] [(18, 12, none)])
    (.drop [16, 17] []))
    (.cond (.s 18) (.seq (.seq (.reg [⟨.mv (.c (.bool false)), none⟩] [] [] [(2, 0, none)])
     (.drop [1, 3, 4, 5, 6, 18] [(true, 0)]))
     (.ret))
     (.skip)))
    (.seq (.seq (.reg [⟨.bin .eql (.s 16) (.c (.int .i64 1)), none⟩,
      ⟨.mv (.r 0), none⟩] [] [] [(19, 1, none)])
    (.drop [17] []))
    (.cond (.s 19) (.seq (.seq (.reg [⟨.mv (.s 3), none⟩,
       ⟨.off 1 (.s 6), none⟩,
       ⟨.load 0 false 1 (.r 1), none⟩,
       ⟨.off 2 (.s 6), none⟩,
       ⟨.off 1 (.r 3), none⟩,
       ⟨.load 0 false 1 (.r 4), none⟩,
       ⟨.off 2 (.s 6), none⟩,
       ⟨.off 2 (.r 6), none⟩,
       ⟨.load 0 false 1 (.r 7), none⟩,
       ⟨.call .heap n_ram_Ram_Reserve [(.r 0), (.r 2), (.r 5), (.r 8)], none⟩,
       ⟨.mv (.s 4), none⟩,
       ⟨.off 1 (.s 6), none⟩,
       ⟨.load 0 false 1 (.r 11), none⟩,
       ⟨.off 2 (.s 6), none⟩,
       ⟨.off 1 (.r 13), none⟩,
       ⟨.load 0 false 1 (.r 14), none⟩,
       ⟨.off 2 (.s 6), none⟩,
       ⟨.off 2 (.r 16), none⟩,
       ⟨.load 0 false 1 (.r 17), none⟩,
       ⟨.call .heap n_undertowref12_Ram_Reserve [(.r 10), (.r 12), (.r 15), (.r 18)], none⟩,
       ⟨.eqb true (.r 9) (.r 19), none⟩] [] [(2, 5), (2, 8), (2, 12), (2, 15), (2, 18), (5, 8), (5, 12), (5, 15), (5, 18), (8, 12), (8, 15), (8, 18), (9, 12), (9, 15), (9, 18), (12, 15), (12, 18), (15, 18)] [(20, 20, none)])
     (.drop [16, 19] []))
     (.cond (.s 20) (.seq (.seq (.reg [⟨.mv (.c (.bool false)), none⟩] [] [] [(2, 0, none)])
      (.drop [1, 3, 4, 5, 6, 20] [(true, 0)]))
      (.ret))
      (.skip)))
     (.seq (.seq (.reg [⟨.bin .eql (.s 16) (.c (.int .i64 2)), none⟩,
       ⟨.mv (.r 0), none⟩] [] [] [(21, 1, none)])
     (.drop [16, 19] []))
     (.cond (.s 21) (.seq (.seq (.reg [⟨.mv (.s 3), none⟩,
        ⟨.off 1 (.s 6), none⟩,
        ⟨.load 0 false 1 (.r 1), none⟩,
        ⟨.call .heap n_ram_Ram_Drop [(.r 0), (.r 2)], none⟩] [] [] [])
      (.drop [21] []))
      (.reg [⟨.mv (.s 4), none⟩,
        ⟨.off 1 (.s 6), none⟩,
        ⟨.load 0 false 1 (.r 1), none⟩,
        ⟨.call .heap n_undertowref12_Ram_Drop [(.r 0), (.r 2)], none⟩] [] [] []))
      (.skip)))))))))
  (.seq (.seq (.reg [⟨.mv (.s 3), none⟩,
    ⟨.off 2 (.s 6), none⟩,
    ⟨.off 1 (.r 1), none⟩,
    ⟨.load 0 false 1 (.r 2), none⟩,
    ⟨.off 2 (.s 6), none⟩,
    ⟨.off 2 (.r 4), none⟩,
    ⟨.load 0 false 1 (.r 5), none⟩,
    ⟨.call .val n_ram_Ram_Load [(.r 0), (.r 3), (.r 6)], none⟩,
    ⟨.mv (.r 7), none⟩,
    ⟨.ext (.r 8) 0, none⟩,
    ⟨.ext (.r 8) 1, none⟩,
    ⟨.ext (.r 8) 2, none⟩,
    ⟨.mv (.r 9), none⟩,
    ⟨.mv (.r 10), none⟩,
    ⟨.mv (.r 11), none⟩] [] [] [(7, 12, none), (8, 13, none), (9, 14, none)])
  (.drop [18, 20, 21] []))
  (.seq (.seq (.reg [⟨.mv (.s 9), none⟩,
    ⟨.mv (.s 4), none⟩,
    ⟨.off 2 (.s 6), none⟩,
    ⟨.off 1 (.r 2), none⟩,
    ⟨.load 0 false 1 (.r 3), none⟩,
    ⟨.off 2 (.s 6), none⟩,
    ⟨.off 2 (.r 5), none⟩,
    ⟨.load 0 false 1 (.r 6), none⟩,
    ⟨.call .val n_undertowref12_Ram_May [(.r 1), (.r 4), (.r 7)], none⟩,
    ⟨.eqb true (.r 0) (.r 8), none⟩,
    ⟨.mv (.r 9), none⟩,
    ⟨.mv (.s 9), some (10, false)⟩,
    ⟨.un .not (.r 11), some (10, false)⟩,
    ⟨.mv (.r 12), some (10, false)⟩,
    ⟨.mv (.s 7), some (13, true)⟩,
    ⟨.bin .neq (.r 14) (.c (.int .u64 0)), some (13, true)⟩,
    ⟨.mv (.r 15), some (13, true)⟩,
    ⟨.mv (.s 8), some (16, false)⟩,
    ⟨.len 1 (.r 17), some (16, false)⟩,
    ⟨.bin .gtr (.r 18) (.c (.int .i64 0)), some (16, false)⟩,
    ⟨.pick (.r 16) (.c (.bool true)) (.r 19), some (13, true)⟩,
    ⟨.pick (.r 13) (.r 20) (.c (.bool false)), some (10, false)⟩,
    ⟨.pick (.r 10) (.c (.bool true)) (.r 21), none⟩] [] [] [(22, 22, none)])
  (.cond (.s 22) (.seq (.seq (.reg [⟨.mv (.c (.bool false)), none⟩] [] [] [(2, 0, none)])
   (.drop [1, 3, 4, 5, 6, 7, 8, 9, 22] [(true, 0)]))
   (.ret))
   (.skip)))
  (.seq (.seq (.seq (.reg [⟨.mv (.s 9), none⟩] [] [] [(23, 0, none)])
  (.drop [9, 22] []))
  (.cond (.s 23) (.seq (.seq (.reg [⟨.mv (.s 4), none⟩,
     ⟨.off 2 (.s 6), none⟩,
     ⟨.off 1 (.r 1), none⟩,
     ⟨.load 0 false 1 (.r 2), none⟩,
     ⟨.off 2 (.s 6), none⟩,
     ⟨.off 2 (.r 4), none⟩,
     ⟨.load 0 false 1 (.r 5), none⟩,
     ⟨.call .val n_undertowref12_Ram_Load [(.r 0), (.r 3), (.r 6)], none⟩,
     ⟨.mv (.r 7), none⟩,
     ⟨.ext (.r 8) 0, none⟩,
     ⟨.ext (.r 8) 1, none⟩,
     ⟨.mv (.r 9), none⟩,
     ⟨.mv (.r 10), none⟩] [] [] [(10, 11, none), (11, 12, none)])
   (.drop [23] []))
   (.seq (.seq (.reg [⟨.mv (.s 7), none⟩,
     ⟨.mv (.s 10), none⟩,
     ⟨.bin .neq (.r 0) (.r 1), none⟩,
     ⟨.mv (.r 2), none⟩,
     ⟨.mv (.s 8), some (3, false)⟩,
     ⟨.mv (.s 11), some (3, false)⟩,
     ⟨.call .val n_undertowref02_SameInts [(.r 4), (.r 5)], some (3, false)⟩,
     ⟨.un .not (.r 6), some (3, false)⟩,
     ⟨.pick (.r 3) (.c (.bool true)) (.r 7), none⟩] [] [] [(24, 8, none)])
   (.drop [7, 8, 10, 11] []))
   (.cond (.s 24) (.seq (.seq (.reg [⟨.mv (.c (.bool false)), none⟩] [] [] [(2, 0, none)])
    (.drop [1, 3, 4, 5, 6, 24] [(true, 0)]))
    (.ret))
    (.skip))))
   (.skip)))
  (.seq (.seq (.reg [⟨.mv (.c (.int .i64 (-1))), none⟩] [] [] [(12, 0, none)])
  (.drop [7, 8, 23, 24] []))
  (.block 3 (.loop ir_undertowlaw12_RamPlaysl0)))))))))
 (.seq (.reg [⟨.mv (.s 5), none⟩,
   ⟨.bin .add (.r 0) (.c (.int .i64 1)), none⟩,
   ⟨.mv (.r 1), none⟩] [] [] [(5, 2, none)])
 (.drop [6, 12, 25] [(true, 0)])))
def ir_undertowlaw12_RamPlays : Vm.Fn := ⟨[0, 1, 4, 5, 6, 7, 8, 9, 10, 11, 12, 13, 14, 16, 19, 32, 40, 41, 55, 56, 78, 79, 123, 124, 144, 146, 167], 1, 0, [.slot 2],
 .seq (.seq (.reg [⟨.mv (.c (.bool false)), none⟩] [] [] [(2, 0, none)])
 (.drop [2] []))
 (.seq (.seq (.reg [⟨.call .val n_undertowlaw12_alive [], none⟩,
   ⟨.un .not (.r 0), none⟩] [] [] [(13, 1, none)])
 (.cond (.s 13) (.seq (.seq (.reg [⟨.mv (.c (.bool false)), none⟩] [] [] [(2, 0, none)])
  (.drop [0, 1, 13] []))
  (.ret))
  (.skip)))
 (.seq (.seq (.seq (.reg [⟨.mv (.s 0), none⟩,
   ⟨.len 1 (.r 0), none⟩,
   ⟨.bin .gtr (.r 1) (.c (.int .i64 1100)), none⟩] [] [] [(14, 2, none)])
 (.drop [13] []))
 (.cond (.s 14) (.seq (.seq (.reg [⟨.call .val n_undertowlaw12_alive [], none⟩,
    ⟨.mv (.r 0), none⟩] [] [] [(2, 1, none)])
  (.drop [0, 1, 14] []))
  (.ret))
  (.skip)))
 (.seq (.seq (.reg [⟨.mv (.s 0), none⟩,
   ⟨.call .heap n_ram_New [(.r 0)], none⟩,
   ⟨.mv (.s 0), none⟩,
   ⟨.call .heap n_undertowref12_New [(.r 2)], none⟩,
   ⟨.mv (.r 1), none⟩,
   ⟨.mv (.r 3), none⟩] [] [] [(3, 4, none), (4, 5, none)])
 (.drop [0, 14] []))
 (.seq (.seq (.reg [⟨.mv (.c (.int .i64 0)), none⟩] [] [] [(5, 0, none)])
 (.block 0 (.loop ir_undertowlaw12_RamPlaysl1)))
 (.seq (.seq (.reg [⟨.call .val n_undertowlaw12_alive [], none⟩,
   ⟨.mv (.r 0), none⟩,
   ⟨.mv (.s 3), some (1, true)⟩,
   ⟨.mv (.s 4), some (1, true)⟩,
   ⟨.call .val n_undertowlaw12_same [(.r 2), (.r 3)], some (1, true)⟩,
   ⟨.pick (.r 1) (.r 4) (.c (.bool false)), none⟩,
   ⟨.mv (.r 5), none⟩] [] [] [(2, 6, none)])
 (.drop [1, 3, 4, 5, 15] []))
 (.ret))))))⟩
/-- 5: undertow/undertowlaw12.RamNone -/
def h5 : Vm.Hint := ⟨[0, 1, 2, 3, 4, 5, 6, 8], [1], [], [[1, 0], [0, 0], [0], [0], [0, 0, 0, 0, 0, 0, 0, 0, 0, 0, 0, 0, 0, 0, 0], [0, 0, 0, 1], [0, 0, 0, 0, 0, 0, 0, 0, 0, 0, 0, 0, 0, 0, 0, 0, 0, 0, 0, 0, 1, 0, 0, 0, 0, 0, 0, 0, 0, 0, 0, 0, 0, 1, 0, 0, 0, 0, 0, 0, 0, 0, 0, 0, 0, 0, 0, 0, 0, 0, 0, 0, 0, 0, 0, 0, 0, 0, 0, 0, 0, 0, 0, 0]], [([0, 2], []), ([], []), ([1, 7], [(true, 0)]), ([7], []), ([], []), ([], []), ([1, 3, 4, 5, 6], [(true, 0)])]⟩
def ir_undertowlaw12_RamNone : Vm.Fn := ⟨[0, 1, 2, 3, 4, 5, 6, 8], 1, 0, [.slot 2],
 .seq (.seq (.reg [⟨.lbox 0 6 (.s 0), none⟩,
   ⟨.mv (.c (.bool false)), none⟩] [(true, 0)] [] [(1, 0, some 1), (2, 1, none)])
 (.drop [0, 2] []))
 (.seq (.seq (.reg [⟨.call .val n_undertowlaw12_alive [], none⟩,
   ⟨.un .not (.r 0), none⟩] [] [] [(7, 1, none)])
 (.cond (.s 7) (.seq (.seq (.reg [⟨.mv (.c (.bool false)), none⟩] [] [] [(2, 0, none)])
  (.drop [1, 7] [(true, 0)]))
  (.ret))
  (.skip)))
 (.seq (.seq (.reg [⟨.mv (.c (.nilp)), none⟩] [] [] [(3, 0, none)])
 (.drop [7] []))
 (.seq (.reg [⟨.mv (.s 3), none⟩,
   ⟨.off 2 (.s 1), none⟩,
   ⟨.off 1 (.r 1), none⟩,
   ⟨.load 0 false 1 (.r 2), none⟩,
   ⟨.off 2 (.s 1), none⟩,
   ⟨.off 2 (.r 4), none⟩,
   ⟨.load 0 false 1 (.r 5), none⟩,
   ⟨.call .val n_ram_Ram_Load [(.r 0), (.r 3), (.r 6)], none⟩,
   ⟨.mv (.r 7), none⟩,
   ⟨.ext (.r 8) 0, none⟩,
   ⟨.ext (.r 8) 1, none⟩,
   ⟨.ext (.r 8) 2, none⟩,
   ⟨.mv (.r 9), none⟩,
   ⟨.mv (.r 10), none⟩,
   ⟨.mv (.r 11), none⟩] [] [] [(4, 12, none), (5, 13, none), (6, 14, none)])
 (.seq (.reg [⟨.mv (.s 3), none⟩,
   ⟨.off 1 (.s 1), none⟩,
   ⟨.load 0 false 1 (.r 1), none⟩,
   ⟨.call .heap n_ram_Ram_Drop [(.r 0), (.r 2)], none⟩] [] [] [])
 (.seq (.seq (.reg [⟨.call .val n_undertowlaw12_alive [], none⟩,
   ⟨.mv (.r 0), none⟩,
   ⟨.mv (.s 4), some (1, true)⟩,
   ⟨.bin .eql (.r 2) (.c (.int .u64 0)), some (1, true)⟩,
   ⟨.pick (.r 1) (.r 3) (.c (.bool false)), none⟩,
   ⟨.mv (.r 4), none⟩,
   ⟨.mv (.s 5), some (5, true)⟩,
   ⟨.len 1 (.r 6), some (5, true)⟩,
   ⟨.bin .eql (.r 7) (.c (.int .i64 0)), some (5, true)⟩,
   ⟨.pick (.r 5) (.r 8) (.c (.bool false)), none⟩,
   ⟨.mv (.r 9), none⟩,
   ⟨.mv (.s 6), some (10, true)⟩,
   ⟨.un .not (.r 11), some (10, true)⟩,
   ⟨.pick (.r 10) (.r 12) (.c (.bool false)), none⟩,
   ⟨.mv (.r 13), none⟩,
   ⟨.mv (.s 3), some (14, true)⟩,
   ⟨.off 1 (.s 1), some (14, true)⟩,
   ⟨.load 0 false 1 (.r 16), some (14, true)⟩,
   ⟨.off 2 (.s 1), some (14, true)⟩,
   ⟨.load 0 true 4 (.r 18), some (14, true)⟩,
   ⟨.call .heap n_ram_Ram_Store [(.r 15), (.r 17), (.r 19)], some (14, true)⟩,
   ⟨.un .not (.r 20), some (14, true)⟩,
   ⟨.pick (.r 14) (.r 21) (.c (.bool false)), none⟩,
   ⟨.mv (.r 22), none⟩,
   ⟨.mv (.s 3), some (23, true)⟩,
   ⟨.off 1 (.s 1), some (23, true)⟩,
   ⟨.load 0 false 1 (.r 25), some (23, true)⟩,
   ⟨.off 2 (.s 1), some (23, true)⟩,
   ⟨.off 1 (.r 27), some (23, true)⟩,
   ⟨.load 0 false 1 (.r 28), some (23, true)⟩,
   ⟨.off 2 (.s 1), some (23, true)⟩,
   ⟨.off 2 (.r 30), some (23, true)⟩,
   ⟨.load 0 false 1 (.r 31), some (23, true)⟩,
   ⟨.call .heap n_ram_Ram_Reserve [(.r 24), (.r 26), (.r 29), (.r 32)], some (23, true)⟩,
   ⟨.un .not (.r 33), some (23, true)⟩,
   ⟨.pick (.r 23) (.r 34) (.c (.bool false)), none⟩,
   ⟨.mv (.r 35), none⟩,
   ⟨.mv (.s 3), some (36, true)⟩,
   ⟨.off 1 (.s 1), some (36, true)⟩,
   ⟨.load 0 false 1 (.r 38), some (36, true)⟩,
   ⟨.off 2 (.s 1), some (36, true)⟩,
   ⟨.off 1 (.r 40), some (36, true)⟩,
   ⟨.load 0 false 1 (.r 41), some (36, true)⟩,
   ⟨.off 2 (.s 1), some (36, true)⟩,
   ⟨.off 2 (.r 43), some (36, true)⟩,
   ⟨.load 0 false 1 (.r 44), some (36, true)⟩,
   ⟨.call .val n_ram_Ram_Held [(.r 37), (.r 39), (.r 42), (.r 45)], some (36, true)⟩,
   ⟨.un .not (.r 46), some (36, true)⟩,
   ⟨.pick (.r 36) (.r 47) (.c (.bool false)), none⟩,
   ⟨.mv (.r 48), none⟩,
   ⟨.mv (.s 3), some (49, true)⟩,
   ⟨.call .val n_ram_Ram_Bytes [(.r 50)], some (49, true)⟩,
   ⟨.len 1 (.r 51), some (49, true)⟩,
   ⟨.mv (.s 3), some (49, true)⟩,
   ⟨.call .val n_ram_Ram_Tags [(.r 53)], some (49, true)⟩,
   ⟨.len 1 (.r 54), some (49, true)⟩,
   ⟨.bin .add (.r 52) (.r 55), some (49, true)⟩,
   ⟨.mv (.s 3), some (49, true)⟩,
   ⟨.call .val n_ram_Ram_Log [(.r 57)], some (49, true)⟩,
   ⟨.len 1 (.r 58), some (49, true)⟩,
   ⟨.bin .add (.r 56) (.r 59), some (49, true)⟩,
   ⟨.bin .eql (.r 60) (.c (.int .i64 0)), some (49, true)⟩,
   ⟨.pick (.r 49) (.r 61) (.c (.bool false)), none⟩,
   ⟨.mv (.r 62), none⟩] [] [] [(2, 63, none)])
 (.drop [1, 3, 4, 5, 6] [(true, 0)]))
 (.ret))))))⟩
/-- 6: undertow/undertowlaw12.RamLast -/
def h6 : Vm.Hint := ⟨[0, 1, 4, 5, 6, 7, 8, 9, 10, 11, 12, 13, 15, 18, 29, 61, 65, 75, 99, 134], [], [], [[0], [0, 0], [0], [0, 0, 0], [0, 0], [0, 1, 0], [0], [0, 0, 0, 0, 0, 0, 0, 0], [0, 0, 0], [0, 0, 0, 0, 0, 0, 0, 0, 0, 0, 0, 1], [0, 0, 0, 0, 0, 0, 0, 0, 0], [0, 0, 0, 0, 0, 0, 0, 0, 0, 0, 0, 0], [0], [0], [0, 0, 0, 0], [0, 0, 0], [0, 0, 0, 0, 0, 0], [0], [0, 0, 0, 0], [0, 0, 0], [0, 0, 0, 0, 0, 0, 0, 0, 0, 0, 0, 0, 0, 0, 0, 0, 0, 0, 0, 0, 0, 0], [0, 0, 0, 0, 0, 0, 0, 0, 0, 0, 0, 0, 0, 0, 0, 0, 0], [0, 0, 0, 0, 0, 0], [0, 0, 0, 0, 0, 0, 0, 0, 0, 0, 0, 0, 0, 0], [0], [0, 0]], [([2], []), ([], []), ([0, 1, 12], []), ([12], []), ([0, 1, 13], []), ([13], []), ([], []), ([], []), ([], []), ([14], []), ([1, 3, 4, 14], []), ([], []), ([0, 5, 6, 7, 15], []), ([15], []), ([], []), ([19], []), ([16], []), ([], []), ([], []), ([18], []), ([17], []), ([10, 18], []), ([], []), ([9, 10, 11, 17], []), ([0, 5, 6, 7, 8, 19], []), ([0, 5, 6, 7, 8, 16], [])]⟩
def ir_undertowlaw12_RamLastl0 : C :=
 .seq (.seq (.reg [⟨.mv (.s 4), none⟩,
   ⟨.mv (.s 1), none⟩,
   ⟨.len 1 (.r 1), none⟩,
   ⟨.bin .lss (.r 0) (.r 2), none⟩,
   ⟨.mv (.r 3), none⟩,
   ⟨.mv (.s 4), some (4, true)⟩,
   ⟨.bin .lss (.r 5) (.c (.int .i64 40)), some (4, true)⟩,
   ⟨.pick (.r 4) (.r 6) (.c (.bool false)), none⟩] [] [] [(14, 7, none)])
 (.cond (.s 14) (.skip)
  (.exit 0)))
 (.seq (.block 1 (.seq (.reg [⟨.mv (.s 3), none⟩,
    ⟨.mv (.s 1), none⟩,
    ⟨.mv (.s 4), none⟩,
    ⟨.iaS 6 (.r 1) (.r 2), none⟩,
    ⟨.off 1 (.r 3), none⟩,
    ⟨.load 0 false 1 (.r 4), none⟩,
    ⟨.mv (.s 1), none⟩,
    ⟨.mv (.s 4), none⟩,
    ⟨.iaS 6 (.r 6) (.r 7), none⟩,
    ⟨.off 2 (.r 8), none⟩,
    ⟨.load 0 true 4 (.r 9), none⟩,
    ⟨.call .heap n_ram_Ram_Store [(.r 0), (.r 5), (.r 10)], none⟩] [] [(3, 8), (3, 10), (5, 8), (5, 10)] [])
  (.drop [14] [])))
 (.reg [⟨.mv (.s 4), none⟩,
   ⟨.bin .add (.r 0) (.c (.int .i64 1)), none⟩,
   ⟨.mv (.r 1), none⟩] [] [] [(4, 2, none)]))
def ir_undertowlaw12_RamLastl1 : C :=
 .seq (.seq (.reg [⟨.mv (.s 11), none⟩,
   ⟨.mv (.s 7), none⟩,
   ⟨.len 1 (.r 1), none⟩,
   ⟨.bin .lss (.r 0) (.r 2), none⟩] [] [] [(17, 3, none)])
 (.cond (.s 17) (.skip)
  (.exit 4)))
 (.seq (.block 5 (.seq (.seq (.reg [⟨.mv (.s 7), none⟩,
    ⟨.mv (.s 11), none⟩,
    ⟨.iaS 4 (.r 0) (.r 1), none⟩,
    ⟨.off 1 (.r 2), none⟩,
    ⟨.load 0 false 1 (.r 3), none⟩,
    ⟨.mv (.s 8), none⟩,
    ⟨.bin .leq (.r 4) (.r 5), none⟩,
    ⟨.mv (.r 6), none⟩,
    ⟨.mv (.s 8), some (7, true)⟩,
    ⟨.mv (.s 7), some (7, true)⟩,
    ⟨.mv (.s 11), some (7, true)⟩,
    ⟨.iaS 4 (.r 9) (.r 10), some (7, true)⟩,
    ⟨.off 1 (.r 11), some (7, true)⟩,
    ⟨.load 0 false 1 (.r 12), some (7, true)⟩,
    ⟨.mv (.s 7), some (7, true)⟩,
    ⟨.mv (.s 11), some (7, true)⟩,
    ⟨.iaS 4 (.r 14) (.r 15), some (7, true)⟩,
    ⟨.off 2 (.r 16), some (7, true)⟩,
    ⟨.load 0 false 1 (.r 17), some (7, true)⟩,
    ⟨.bin .add (.r 13) (.r 18), some (7, true)⟩,
    ⟨.bin .lss (.r 8) (.r 19), some (7, true)⟩,
    ⟨.pick (.r 7) (.r 20) (.c (.bool false)), none⟩] [] [(11, 16), (11, 18), (13, 16), (13, 18)] [(18, 21, none)])
  (.drop [17] []))
  (.cond (.s 18) (.seq (.seq (.reg [⟨.mv (.s 7), none⟩,
     ⟨.mv (.s 11), none⟩,
     ⟨.iaS 4 (.r 0) (.r 1), none⟩,
     ⟨.off 3 (.r 2), none⟩,
     ⟨.load 0 false 1 (.r 3), none⟩,
     ⟨.mv (.s 8), none⟩,
     ⟨.mv (.s 7), none⟩,
     ⟨.mv (.s 11), none⟩,
     ⟨.iaS 4 (.r 6) (.r 7), none⟩,
     ⟨.off 1 (.r 8), none⟩,
     ⟨.load 0 false 1 (.r 9), none⟩,
     ⟨.bin .sub (.r 5) (.r 10), none⟩,
     ⟨.bin .mul (.c (.int .i64 8)) (.r 11), none⟩,
     ⟨.i2i .u64 (.r 12), none⟩,
     ⟨.bin .shr (.r 4) (.r 13), none⟩,
     ⟨.i2i .u8 (.r 14), none⟩,
     ⟨.mv (.r 15), none⟩] [] [(2, 8), (2, 10), (4, 8), (4, 10)] [(9, 16, none)])
   (.drop [10, 18] []))
   (.reg [⟨.mv (.s 7), none⟩,
     ⟨.mv (.s 11), none⟩,
     ⟨.iaS 4 (.r 0) (.r 1), none⟩,
     ⟨.off 0 (.r 2), none⟩,
     ⟨.load 0 false 1 (.r 3), none⟩,
     ⟨.mv (.r 4), none⟩] [] [] [(10, 5, none)]))
   (.skip))))
 (.seq (.reg [⟨.mv (.s 11), none⟩,
   ⟨.bin .add (.r 0) (.c (.int .i64 1)), none⟩,
   ⟨.mv (.r 1), none⟩] [] [] [(11, 2, none)])
 (.drop [18] [])))
def ir_undertowlaw12_RamLastl2 : C :=
 .seq (.seq (.reg [⟨.mv (.s 8), none⟩,
   ⟨.mv (.s 0), none⟩,
   ⟨.len 1 (.r 1), none⟩,
   ⟨.bin .lss (.r 0) (.r 2), none⟩] [] [] [(16, 3, none)])
 (.cond (.s 16) (.skip)
  (.exit 2)))
 (.seq (.block 3 (.seq (.seq (.reg [⟨.mv (.s 0), none⟩,
    ⟨.mv (.s 8), none⟩,
    ⟨.iaS 1 (.r 0) (.r 1), none⟩,
    ⟨.load 0 false 1 (.r 2), none⟩,
    ⟨.mv (.r 3), none⟩,
    ⟨.mv (.c (.int .i64 (-1))), none⟩] [] [] [(9, 4, none), (10, 5, none)])
  (.drop [16] []))
  (.seq (.seq (.reg [⟨.mv (.c (.int .i64 0)), none⟩] [] [] [(11, 0, none)])
  (.block 4 (.loop ir_undertowlaw12_RamLastl1)))
  (.seq (.seq (.reg [⟨.mv (.s 5), none⟩,
    ⟨.mv (.s 8), none⟩,
    ⟨.iaS 1 (.r 0) (.r 1), none⟩,
    ⟨.load 0 false 1 (.r 2), none⟩,
    ⟨.mv (.s 9), none⟩,
    ⟨.bin .neq (.r 3) (.r 4), none⟩,
    ⟨.mv (.r 5), none⟩,
    ⟨.mv (.s 6), some (6, false)⟩,
    ⟨.mv (.s 8), some (6, false)⟩,
    ⟨.iaS 1 (.r 7) (.r 8), some (6, false)⟩,
    ⟨.load 0 false 1 (.r 9), some (6, false)⟩,
    ⟨.mv (.s 10), some (6, false)⟩,
    ⟨.bin .neq (.r 10) (.r 11), some (6, false)⟩,
    ⟨.pick (.r 6) (.c (.bool true)) (.r 12), none⟩] [] [] [(19, 13, none)])
  (.drop [9, 10, 11, 17] []))
  (.cond (.s 19) (.seq (.seq (.reg [⟨.mv (.c (.bool false)), none⟩] [] [] [(2, 0, none)])
   (.drop [0, 5, 6, 7, 8, 19] []))
   (.ret))
   (.skip))))))
 (.seq (.reg [⟨.mv (.s 8), none⟩,
   ⟨.bin .add (.r 0) (.c (.int .i64 1)), none⟩,
   ⟨.mv (.r 1), none⟩] [] [] [(8, 2, none)])
 (.drop [19] [])))
def ir_undertowlaw12_RamLast : Vm.Fn := ⟨[0, 1, 4, 5, 6, 7, 8, 9, 10, 11, 12, 13, 15, 18, 29, 61, 65, 75, 99, 134], 0, 0, [.slot 2],
 .seq (.seq (.reg [⟨.mv (.c (.bool false)), none⟩] [] [] [(2, 0, none)])
 (.drop [2] []))
 (.seq (.seq (.reg [⟨.call .val n_undertowlaw12_alive [], none⟩,
   ⟨.un .not (.r 0), none⟩] [] [] [(12, 1, none)])
 (.cond (.s 12) (.seq (.seq (.reg [⟨.mv (.c (.bool false)), none⟩] [] [] [(2, 0, none)])
  (.drop [0, 1, 12] []))
  (.ret))
  (.skip)))
 (.seq (.seq (.seq (.reg [⟨.mv (.s 0), none⟩,
   ⟨.len 1 (.r 0), none⟩,
   ⟨.bin .gtr (.r 1) (.c (.int .i64 200)), none⟩] [] [] [(13, 2, none)])
 (.drop [12] []))
 (.cond (.s 13) (.seq (.seq (.reg [⟨.call .val n_undertowlaw12_alive [], none⟩,
    ⟨.mv (.r 0), none⟩] [] [] [(2, 1, none)])
  (.drop [0, 1, 13] []))
  (.ret))
  (.skip)))
 (.seq (.seq (.reg [⟨.mv (.s 0), none⟩,
   ⟨.call .heap n_ram_New [(.r 0)], none⟩,
   ⟨.mv (.r 1), none⟩] [] [] [(3, 2, none)])
 (.drop [13] []))
 (.seq (.seq (.reg [⟨.mv (.c (.int .i64 0)), none⟩] [] [] [(4, 0, none)])
 (.block 0 (.loop ir_undertowlaw12_RamLastl0)))
 (.seq (.seq (.reg [⟨.mv (.s 3), none⟩,
   ⟨.call .val n_ram_Ram_Bytes [(.r 0)], none⟩,
   ⟨.mv (.s 3), none⟩,
   ⟨.call .val n_ram_Ram_Tags [(.r 2)], none⟩,
   ⟨.mv (.s 3), none⟩,
   ⟨.call .val n_ram_Ram_Log [(.r 4)], none⟩,
   ⟨.mv (.r 1), none⟩,
   ⟨.mv (.r 3), none⟩,
   ⟨.mv (.r 5), none⟩] [] [] [(5, 6, none), (6, 7, none), (7, 8, none)])
 (.drop [1, 3, 4, 14] []))
 (.seq (.seq (.reg [⟨.mv (.s 5), none⟩,
   ⟨.len 1 (.r 0), none⟩,
   ⟨.mv (.s 0), none⟩,
   ⟨.len 1 (.r 2), none⟩,
   ⟨.bin .neq (.r 1) (.r 3), none⟩,
   ⟨.mv (.r 4), none⟩,
   ⟨.mv (.s 6), some (5, false)⟩,
   ⟨.len 1 (.r 6), some (5, false)⟩,
   ⟨.mv (.s 0), some (5, false)⟩,
   ⟨.len 1 (.r 8), some (5, false)⟩,
   ⟨.bin .neq (.r 7) (.r 9), some (5, false)⟩,
   ⟨.pick (.r 5) (.c (.bool true)) (.r 10), none⟩] [] [] [(15, 11, none)])
 (.cond (.s 15) (.seq (.seq (.reg [⟨.mv (.c (.bool false)), none⟩] [] [] [(2, 0, none)])
  (.drop [0, 5, 6, 7, 15] []))
  (.ret))
  (.skip)))
 (.seq (.seq (.seq (.reg [⟨.mv (.c (.int .i64 0)), none⟩] [] [] [(8, 0, none)])
 (.drop [15] []))
 (.block 2 (.loop ir_undertowlaw12_RamLastl2)))
 (.seq (.seq (.reg [⟨.call .val n_undertowlaw12_alive [], none⟩,
   ⟨.mv (.r 0), none⟩] [] [] [(2, 1, none)])
 (.drop [0, 5, 6, 7, 8, 16] []))
 (.ret)))))))))⟩
/-- 7: undertow/undertowlaw12.alive -/
def h7 : Vm.Hint := ⟨[0, 1, 2, 3, 4, 5, 6], [], [], [[0], [0, 1, 0], [0, 1, 0], [0, 0, 1, 0], [0, 0, 0, 0, 0, 0, 0, 0, 0], [0, 0, 0, 0, 0, 0, 0, 0, 0, 0, 0, 0, 0, 0, 0, 0, 0, 0, 0, 0, 0, 0, 0, 0, 0, 0, 0, 0]], [([0], []), ([], []), ([], []), ([], []), ([], []), ([1, 2, 3, 4, 5, 6], [])]⟩
def ir_undertowlaw12_alive : Vm.Fn := ⟨[0, 1, 2, 3, 4, 5, 6], 0, 0, [.slot 0],
 .seq (.seq (.reg [⟨.mv (.c (.bool false)), none⟩] [] [] [(0, 0, none)])
 (.drop [0] []))
 (.seq (.reg [⟨.mksl [.int .u8 0] 1 (.c (.int .i64 16)) (.c (.int .i64 16)), none⟩,
   ⟨.call .heap n_ram_New [(.r 0)], none⟩,
   ⟨.mv (.r 1), none⟩] [] [] [(1, 2, none)])
 (.seq (.reg [⟨.mv (.s 1), none⟩,
   ⟨.call .heap n_ram_Ram_Reserve [(.r 0), (.c (.int .i64 1)), (.c (.int .i64 4)), (.c (.int .i64 4))], none⟩,
   ⟨.mv (.r 1), none⟩] [] [] [(2, 2, none)])
 (.seq (.reg [⟨.mv (.s 1), none⟩,
   ⟨.build [.int .i64 0, .int .i64 0, .int .i64 0, .int .u64 0] [(0, 1, (.c (.int .i64 7))), (1, 1, (.c (.int .i64 4))), (2, 1, (.c (.int .i64 2))), (3, 1, (.c (.int .u64 66051)))], none⟩,
   ⟨.call .heap n_ram_Ram_Store [(.r 0), (.c (.int .i64 0)), (.r 1)], none⟩,
   ⟨.mv (.r 2), none⟩] [] [] [(3, 3, none)])
 (.seq (.reg [⟨.mv (.s 1), none⟩,
   ⟨.call .val n_ram_Ram_Load [(.r 0), (.c (.int .i64 4)), (.c (.int .i64 4))], none⟩,
   ⟨.mv (.r 1), none⟩,
   ⟨.ext (.r 2) 0, none⟩,
   ⟨.ext (.r 2) 1, none⟩,
   ⟨.ext (.r 2) 2, none⟩,
   ⟨.mv (.r 3), none⟩,
   ⟨.mv (.r 4), none⟩,
   ⟨.mv (.r 5), none⟩] [] [] [(4, 6, none), (5, 7, none), (6, 8, none)])
 (.seq (.seq (.reg [⟨.mv (.s 2), none⟩,
   ⟨.mv (.r 0), none⟩,
   ⟨.mv (.s 3), some (1, true)⟩,
   ⟨.pick (.r 1) (.r 2) (.c (.bool false)), none⟩,
   ⟨.mv (.r 3), none⟩,
   ⟨.mv (.s 6), some (4, true)⟩,
   ⟨.pick (.r 4) (.r 5) (.c (.bool false)), none⟩,
   ⟨.mv (.r 6), none⟩,
   ⟨.mv (.s 4), some (7, true)⟩,
   ⟨.bin .eql (.r 8) (.c (.int .u64 515)), some (7, true)⟩,
   ⟨.pick (.r 7) (.r 9) (.c (.bool false)), none⟩,
   ⟨.mv (.r 10), none⟩,
   ⟨.mv (.s 5), some (11, true)⟩,
   ⟨.lit 0 1 [[.int .i64 0], [.int .i64 0], [.int .i64 0], [.int .i64 0]] [(0, (.c (.int .i64 7))), (1, (.c (.int .i64 7))), (2, (.c (.int .i64 (-1)))), (3, (.c (.int .i64 (-1))))], some (11, true)⟩,
   ⟨.call .val n_undertowref02_SameInts [(.r 12), (.r 13)], some (11, true)⟩,
   ⟨.pick (.r 11) (.r 14) (.c (.bool false)), none⟩,
   ⟨.mv (.r 15), none⟩,
   ⟨.mv (.s 1), some (16, true)⟩,
   ⟨.call .val n_ram_Ram_Held [(.r 17), (.c (.int .i64 1)), (.c (.int .i64 4)), (.c (.int .i64 4))], some (16, true)⟩,
   ⟨.un .not (.r 18), some (16, true)⟩,
   ⟨.pick (.r 16) (.r 19) (.c (.bool false)), none⟩,
   ⟨.mv (.r 20), none⟩,
   ⟨.mv (.s 1), some (21, true)⟩,
   ⟨.call .val n_ram_Ram_Log [(.r 22)], some (21, true)⟩,
   ⟨.len 1 (.r 23), some (21, true)⟩,
   ⟨.bin .eql (.r 24) (.c (.int .i64 1)), some (21, true)⟩,
   ⟨.pick (.r 21) (.r 25) (.c (.bool false)), none⟩,
   ⟨.mv (.r 26), none⟩] [] [] [(0, 27, none)])
 (.drop [1, 2, 3, 4, 5, 6] []))
 (.ret))))))⟩
/-- 8: undertow/ram.New -/
def h8 : Vm.Hint := ⟨[0, 2, 3, 16, 17, 18], [], [], [[0], [0, 0, 0, 0, 0, 1, 0, 0, 0], [0, 0, 0, 0, 0, 0], [0], [0, 0, 0, 0, 0, 1, 0, 0, 0, 0], [0, 0], [0, 0]], [([1], []), ([0], []), ([], []), ([], []), ([5], []), ([], []), ([2, 3, 4, 5], [])]⟩
def ir_ram_Newl0 : C :=
 .seq (.reg [⟨.bin .lss (.s 4) (.s 3), none⟩] [] [] [(5, 0, none)])
 (.seq (.cond (.s 5) (.skip)
  (.exit 0))
 (.seq (.block 1 (.seq (.reg [⟨.mv (.s 2), none⟩,
    ⟨.mv (.s 2), none⟩,
    ⟨.nilck (.r 1), none⟩,
    ⟨.off 1 (.r 2), none⟩,
    ⟨.load 0 false 1 (.r 3), none⟩,
    ⟨.lit 1 1 [[.int .i64 0]] [(0, (.c (.int .i64 (-1))))], none⟩,
    ⟨.app 0 1 8 (.r 4) (.r 5), none⟩,
    ⟨.nilck (.r 0), none⟩,
    ⟨.off 1 (.r 7), none⟩,
    ⟨.store 0 1 (.r 8) (.r 6), none⟩] [] [] [])
  (.drop [5] [])))
 (.reg [⟨.bin .add (.s 4) (.c (.int .i64 1)), none⟩,
   ⟨.mv (.r 0), none⟩] [] [] [(4, 1, none)])))
def ir_ram_New : Vm.Fn := ⟨[0, 2, 3, 16, 17, 18], 0, 0, [.slot 1],
 .seq (.seq (.reg [⟨.mv (.c (.nilp)), none⟩] [] [] [(1, 0, none)])
 (.drop [1] []))
 (.seq (.seq (.reg [⟨.mv (.s 0), none⟩,
   ⟨.mv (.s 0), none⟩,
   ⟨.len 1 (.r 1), none⟩,
   ⟨.min [(.r 2), (.c (.int .i64 1024))], none⟩,
   ⟨.slc 1 (.r 0) none (some (.r 3)) none, none⟩,
   ⟨.call .heap n_slices_Clone_byte_byte [(.r 4)], none⟩,
   ⟨.build [.nils, .nils, .nils, .int .i64 0, .int .i64 0, .int .i64 0, .int .i64 0, .int .i64 0, .int .i64 0] [(0, 1, (.r 5))], none⟩,
   ⟨.hbox 9 (.r 6), none⟩,
   ⟨.mv (.r 7), none⟩] [] [] [(2, 8, none)])
 (.drop [0] []))
 (.seq (.seq (.reg [⟨.mv (.s 2), none⟩,
   ⟨.nilck (.r 0), none⟩,
   ⟨.off 0 (.r 1), none⟩,
   ⟨.load 0 false 1 (.r 2), none⟩,
   ⟨.len 1 (.r 3), none⟩,
   ⟨.mv (.c (.int .i64 0)), none⟩] [] [] [(3, 4, none), (4, 5, none)])
 (.block 0 (.loop ir_ram_Newl0)))
 (.seq (.seq (.reg [⟨.mv (.s 2), none⟩,
   ⟨.mv (.r 0), none⟩] [] [] [(1, 1, none)])
 (.drop [2, 3, 4, 5] []))
 (.ret))))⟩
/-- 9: (*undertow/ram.Ram).Reserve -/
def h9 : Vm.Hint := ⟨[0, 1, 2, 3, 8, 18], [], [], [[0], [0, 0, 0, 0, 0, 0, 0, 0, 0, 0], [0], [0, 0, 0, 0, 0, 0, 0, 0, 0], [0]], [([4], []), ([], []), ([0, 1, 2, 3, 5], []), ([0, 1, 2, 3, 5], []), ([], [])]⟩
def ir_ram_Ram_Reserve : Vm.Fn := ⟨[0, 1, 2, 3, 8, 18], 0, 0, [.slot 4],
 .seq (.seq (.reg [⟨.mv (.c (.bool false)), none⟩] [] [] [(4, 0, none)])
 (.drop [4] []))
 (.seq (.seq (.reg [⟨.mv (.s 0), none⟩,
   ⟨.mv (.s 2), none⟩,
   ⟨.mv (.s 3), none⟩,
   ⟨.call .val n_ram_Ram_may [(.r 0), (.r 1), (.r 2)], none⟩,
   ⟨.un .not (.r 3), none⟩,
   ⟨.mv (.r 4), none⟩,
   ⟨.mv (.s 1), some (5, false)⟩,
   ⟨.call .val n_ram_isHart [(.r 6)], some (5, false)⟩,
   ⟨.un .not (.r 7), some (5, false)⟩,
   ⟨.pick (.r 5) (.c (.bool true)) (.r 8), none⟩] [] [] [(5, 9, none)])
 (.cond (.s 5) (.seq (.seq (.reg [⟨.mv (.c (.bool false)), none⟩] [] [] [(4, 0, none)])
  (.drop [0, 1, 2, 3, 5] []))
  (.ret))
  (.skip)))
 (.seq (.seq (.reg [⟨.mv (.s 0), none⟩,
   ⟨.mv (.s 1), none⟩,
   ⟨.mv (.s 2), none⟩,
   ⟨.mv (.s 3), none⟩,
   ⟨.build [.int .i64 0, .int .i64 0] [(0, 1, (.r 2)), (1, 1, (.r 3))], none⟩,
   ⟨.nilck (.r 0), none⟩,
   ⟨.off 3 (.r 5), none⟩,
   ⟨.iaA 3 2 (.r 6) (.r 1), none⟩,
   ⟨.store 0 2 (.r 7) (.r 4), none⟩] [] [] [])
 (.drop [0, 1, 2, 3, 5] []))
 (.seq (.reg [⟨.mv (.c (.bool true)), none⟩] [] [] [(4, 0, none)])
 (.ret))))⟩
/-- 10: (*undertow/ram.Ram).Store -/
def h10 : Vm.Hint := ⟨[0, 1, 2, 5, 6, 7, 8, 9, 10, 27, 39, 40, 41, 42, 81, 82, 83, 99], [5, 10], [], [[1, 0], [0, 0, 0, 0, 0, 0, 0, 0, 0, 0, 0, 0, 0, 0, 0, 0, 0], [0], [0, 0, 0, 0, 0, 0, 0, 0], [0, 0, 0, 0, 0, 0, 0], [0], [0, 0, 0, 0, 0], [0, 0, 0, 0, 0, 0, 0, 0, 0, 0, 0, 0, 0, 0, 0, 0, 0, 0, 0, 0, 0, 0, 0], [0, 0], [0, 0, 0, 0, 0, 0, 1, 2, 0, 0, 0], [0, 0, 0, 0, 0], [0], [0, 0, 2, 0, 0], [0, 0, 0, 0, 0, 0, 0, 0, 0, 0, 0, 0, 0, 0], [0, 0, 1], [0, 0], [0]], [([2, 4], []), ([], []), ([0, 1, 3, 9], [(true, 0)]), ([9], []), ([], []), ([], []), ([13], []), ([5, 6], []), ([], []), ([10, 11, 12, 13], []), ([], []), ([], []), ([16], []), ([8], [(true, 1)]), ([7, 17], []), ([7, 17], []), ([0, 1, 3, 14, 15, 16], [(true, 0)])]⟩
def ir_ram_Ram_Storel0 : C :=
 .seq (.reg [⟨.bin .lss (.s 12) (.s 11), none⟩] [] [] [(13, 0, none)])
 (.seq (.cond (.s 13) (.skip)
  (.exit 0))
 (.seq (.block 1 (.seq (.seq (.reg [⟨.mv (.s 12), none⟩,
    ⟨.iaS 1 (.s 10) (.s 12), none⟩,
    ⟨.load 0 false 1 (.r 1), none⟩,
    ⟨.mv (.r 0), none⟩,
    ⟨.mv (.r 2), none⟩] [] [] [(5, 3, none), (6, 4, none)])
  (.drop [13] []))
  (.seq (.reg [⟨.mv (.s 0), none⟩,
    ⟨.nilck (.r 0), none⟩,
    ⟨.off 0 (.r 1), none⟩,
    ⟨.load 0 false 1 (.r 2), none⟩,
    ⟨.off 1 (.s 3), none⟩,
    ⟨.load 0 false 1 (.r 4), none⟩,
    ⟨.mv (.s 5), none⟩,
    ⟨.bin .add (.r 5) (.r 6), none⟩,
    ⟨.mv (.s 0), none⟩,
    ⟨.nilck (.r 8), none⟩,
    ⟨.off 1 (.r 9), none⟩,
    ⟨.load 0 false 1 (.r 10), none⟩,
    ⟨.off 1 (.s 3), none⟩,
    ⟨.load 0 false 1 (.r 12), none⟩,
    ⟨.mv (.s 5), none⟩,
    ⟨.bin .add (.r 13) (.r 14), none⟩,
    ⟨.mv (.s 6), none⟩,
    ⟨.off 0 (.s 3), none⟩,
    ⟨.load 0 false 1 (.r 17), none⟩,
    ⟨.iaS 1 (.r 3) (.r 7), none⟩,
    ⟨.store 0 1 (.r 19) (.r 16), none⟩,
    ⟨.iaS 1 (.r 11) (.r 15), none⟩,
    ⟨.store 0 1 (.r 21) (.r 18), none⟩] [] [(3, 5), (3, 11), (3, 13), (3, 18), (5, 11), (5, 13), (5, 18), (11, 13), (11, 18), (13, 18), (13, 19), (13, 20), (18, 19), (18, 20)] [])
  (.drop [5, 6] []))))
 (.reg [⟨.bin .add (.s 12) (.c (.int .i64 1)), none⟩,
   ⟨.mv (.r 0), none⟩] [] [] [(12, 1, none)])))
def ir_ram_Ram_Storel1 : C :=
 .seq (.reg [⟨.bin .lss (.s 15) (.c (.int .i64 3)), none⟩] [] [] [(16, 0, none)])
 (.seq (.cond (.s 16) (.skip)
  (.exit 2))
 (.seq (.block 3 (.seq (.seq (.reg [⟨.mv (.s 15), none⟩,
    ⟨.ixA 3 2 true (.s 14) (.s 15), none⟩,
    ⟨.lalloc 1 [.int .i64 0, .int .i64 0], none⟩,
    ⟨.mv (.r 0), none⟩,
    ⟨.store 0 2 (.r 2) (.r 1), none⟩] [(true, 1)] [] [(7, 3, none), (8, 2, some 3)])
  (.drop [16] []))
  (.seq (.seq (.reg [⟨.mv (.s 7), none⟩,
    ⟨.mv (.s 1), none⟩,
    ⟨.bin .neq (.r 0) (.r 1), none⟩,
    ⟨.mv (.r 2), none⟩,
    ⟨.off 0 (.s 8), some (3, true)⟩,
    ⟨.load 0 false 1 (.r 4), some (3, true)⟩,
    ⟨.off 1 (.s 8), some (3, true)⟩,
    ⟨.load 0 false 1 (.r 6), some (3, true)⟩,
    ⟨.off 1 (.s 3), some (3, true)⟩,
    ⟨.load 0 false 1 (.r 8), some (3, true)⟩,
    ⟨.off 2 (.s 3), some (3, true)⟩,
    ⟨.load 0 false 1 (.r 10), some (3, true)⟩,
    ⟨.call .val n_word_Overlap [(.r 5), (.r 7), (.r 9), (.r 11)], some (3, true)⟩,
    ⟨.pick (.r 3) (.r 12) (.c (.bool false)), none⟩] [] [] [(17, 13, none)])
  (.drop [8] [(true, 1)]))
  (.cond (.s 17) (.seq (.reg [⟨.mv (.s 0), none⟩,
     ⟨.mv (.s 7), none⟩,
     ⟨.call .heap n_ram_Ram_Drop [(.r 0), (.r 1)], none⟩] [] [] [])
   (.drop [7, 17] []))
   (.skip)))))
 (.seq (.reg [⟨.bin .add (.s 15) (.c (.int .i64 1)), none⟩,
   ⟨.mv (.r 0), none⟩] [] [] [(15, 1, none)])
 (.drop [7, 17] []))))
def ir_ram_Ram_Store : Vm.Fn := ⟨[0, 1, 2, 5, 6, 7, 8, 9, 10, 27, 39, 40, 41, 42, 81, 82, 83, 99], 2, 0, [.slot 4],
 .seq (.seq (.reg [⟨.lbox 0 4 (.s 2), none⟩,
   ⟨.mv (.c (.bool false)), none⟩] [(true, 0)] [] [(3, 0, some 1), (4, 1, none)])
 (.drop [2, 4] []))
 (.seq (.seq (.reg [⟨.mv (.s 0), none⟩,
   ⟨.off 1 (.s 3), none⟩,
   ⟨.load 0 false 1 (.r 1), none⟩,
   ⟨.off 2 (.s 3), none⟩,
   ⟨.load 0 false 1 (.r 3), none⟩,
   ⟨.call .val n_ram_Ram_may [(.r 0), (.r 2), (.r 4)], none⟩,
   ⟨.un .not (.r 5), none⟩,
   ⟨.mv (.r 6), none⟩,
   ⟨.off 0 (.s 3), some (7, false)⟩,
   ⟨.load 0 false 1 (.r 8), some (7, false)⟩,
   ⟨.bin .lss (.r 9) (.c (.int .i64 0)), some (7, false)⟩,
   ⟨.pick (.r 7) (.c (.bool true)) (.r 10), none⟩,
   ⟨.mv (.r 11), none⟩,
   ⟨.mv (.s 1), some (12, false)⟩,
   ⟨.call .val n_ram_isHart [(.r 13)], some (12, false)⟩,
   ⟨.un .not (.r 14), some (12, false)⟩,
   ⟨.pick (.r 12) (.c (.bool true)) (.r 15), none⟩] [] [] [(9, 16, none)])
 (.cond (.s 9) (.seq (.seq (.reg [⟨.mv (.c (.bool false)), none⟩] [] [] [(4, 0, none)])
  (.drop [0, 1, 3, 9] [(true, 0)]))
  (.ret))
  (.skip)))
 (.seq (.seq (.reg [⟨.off 3 (.s 3), none⟩,
   ⟨.load 0 false 1 (.r 0), none⟩,
   ⟨.off 2 (.s 3), none⟩,
   ⟨.load 0 false 1 (.r 2), none⟩,
   ⟨.bin .mul (.c (.int .i64 8)) (.r 3), none⟩,
   ⟨.call .val n_word_Zext [(.r 1), (.r 4)], none⟩,
   ⟨.off 3 (.s 3), none⟩,
   ⟨.store 0 1 (.r 6) (.r 5), none⟩] [] [] [])
 (.drop [9] []))
 (.seq (.seq (.reg [⟨.off 3 (.s 3), none⟩,
   ⟨.load 0 false 1 (.r 0), none⟩,
   ⟨.off 2 (.s 3), none⟩,
   ⟨.load 0 false 1 (.r 2), none⟩,
   ⟨.call .val n_word_Bytes [(.r 1), (.r 3)], none⟩,
   ⟨.len 1 (.r 4), none⟩,
   ⟨.mv (.c (.int .i64 0)), none⟩] [] [] [(10, 4, none), (11, 5, none), (12, 6, none)])
 (.block 0 (.loop ir_ram_Ram_Storel0)))
 (.seq (.seq (.reg [⟨.mv (.s 0), none⟩,
   ⟨.mv (.s 0), none⟩,
   ⟨.nilck (.r 1), none⟩,
   ⟨.off 2 (.r 2), none⟩,
   ⟨.load 0 false 1 (.r 3), none⟩,
   ⟨.load 0 true 4 (.s 3), none⟩,
   ⟨.lit 1 4 [[.int .i64 0, .int .i64 0, .int .i64 0, .int .u64 0]] [(0, (.r 5))], none⟩,
   ⟨.app 2 4 32 (.r 4) (.r 6), none⟩,
   ⟨.nilck (.r 0), none⟩,
   ⟨.off 2 (.r 8), none⟩,
   ⟨.store 0 1 (.r 9) (.r 7), none⟩] [] [(4, 5)] [])
 (.drop [10, 11, 12, 13] []))
 (.seq (.seq (.reg [⟨.mv (.s 0), none⟩,
   ⟨.nilck (.r 0), none⟩,
   ⟨.off 3 (.r 1), none⟩,
   ⟨.load 0 true 6 (.r 2), none⟩,
   ⟨.mv (.c (.int .i64 0)), none⟩] [] [] [(14, 3, none), (15, 4, none)])
 (.block 2 (.loop ir_ram_Ram_Storel1)))
 (.seq (.seq (.reg [⟨.mv (.c (.bool true)), none⟩] [] [] [(4, 0, none)])
 (.drop [0, 1, 3, 14, 15, 16] [(true, 0)]))
 (.ret)))))))⟩
/-- 11: undertow/undertowref01.Overlap -/
def h11 : Vm.Hint := ⟨[0, 1, 2, 3, 8, 38], [], [], [[0], [0, 0, 0, 0, 0, 0, 0, 0, 0, 0, 0, 0, 0, 0, 0, 0, 0, 0, 0, 0, 0, 0, 0, 0, 0, 0, 0, 0, 0, 0], [0], [0, 0, 0, 0, 0, 0, 0, 0, 0, 0, 0, 0, 0]], []⟩
def ir_undertowref01_Overlap : Vm.Fn := ⟨[0, 1, 2, 3, 8, 38], 0, 0, [.slot 4],
 .seq (.reg [⟨.mv (.c (.bool false)), none⟩] [] [] [(4, 0, none)])
 (.seq (.seq (.reg [⟨.mv (.s 0), none⟩,
   ⟨.bin .lss (.r 0) (.c (.int .i64 0)), none⟩,
   ⟨.mv (.r 1), none⟩,
   ⟨.mv (.s 2), some (2, false)⟩,
   ⟨.bin .lss (.r 3) (.c (.int .i64 0)), some (2, false)⟩,
   ⟨.pick (.r 2) (.c (.bool true)) (.r 4), none⟩,
   ⟨.mv (.r 5), none⟩,
   ⟨.mv (.s 0), some (6, false)⟩,
   ⟨.bin .gtr (.r 7) (.c (.int .i64 1099511627776)), some (6, false)⟩,
   ⟨.pick (.r 6) (.c (.bool true)) (.r 8), none⟩,
   ⟨.mv (.r 9), none⟩,
   ⟨.mv (.s 2), some (10, false)⟩,
   ⟨.bin .gtr (.r 11) (.c (.int .i64 1099511627776)), some (10, false)⟩,
   ⟨.pick (.r 10) (.c (.bool true)) (.r 12), none⟩,
   ⟨.mv (.r 13), none⟩,
   ⟨.mv (.s 1), some (14, false)⟩,
   ⟨.bin .lss (.r 15) (.c (.int .i64 1)), some (14, false)⟩,
   ⟨.pick (.r 14) (.c (.bool true)) (.r 16), none⟩,
   ⟨.mv (.r 17), none⟩,
   ⟨.mv (.s 1), some (18, false)⟩,
   ⟨.bin .gtr (.r 19) (.c (.int .i64 8)), some (18, false)⟩,
   ⟨.pick (.r 18) (.c (.bool true)) (.r 20), none⟩,
   ⟨.mv (.r 21), none⟩,
   ⟨.mv (.s 3), some (22, false)⟩,
   ⟨.bin .lss (.r 23) (.c (.int .i64 1)), some (22, false)⟩,
   ⟨.pick (.r 22) (.c (.bool true)) (.r 24), none⟩,
   ⟨.mv (.r 25), none⟩,
   ⟨.mv (.s 3), some (26, false)⟩,
   ⟨.bin .gtr (.r 27) (.c (.int .i64 8)), some (26, false)⟩,
   ⟨.pick (.r 26) (.c (.bool true)) (.r 28), none⟩] [] [] [(5, 29, none)])
 (.cond (.s 5) (.seq (.reg [⟨.mv (.c (.bool false)), none⟩] [] [] [(4, 0, none)])
  (.ret))
  (.skip)))
 (.seq (.reg [⟨.mv (.s 0), none⟩,
   ⟨.mv (.s 2), none⟩,
   ⟨.mv (.s 3), none⟩,
   ⟨.bin .add (.r 1) (.r 2), none⟩,
   ⟨.bin .lss (.r 0) (.r 3), none⟩,
   ⟨.mv (.r 4), none⟩,
   ⟨.mv (.s 2), some (5, true)⟩,
   ⟨.mv (.s 0), some (5, true)⟩,
   ⟨.mv (.s 1), some (5, true)⟩,
   ⟨.bin .add (.r 7) (.r 8), some (5, true)⟩,
   ⟨.bin .lss (.r 6) (.r 9), some (5, true)⟩,
   ⟨.pick (.r 5) (.r 10) (.c (.bool false)), none⟩,
   ⟨.mv (.r 11), none⟩] [] [] [(4, 12, none)])
 (.ret)))⟩
/-- 12: (*undertow/ram.Ram).Held -/
def h12 : Vm.Hint := ⟨[0, 1, 2, 3, 8], [], [], [[0], [0, 0, 0, 0, 0, 0, 0, 0, 0, 0, 0, 0, 0, 0, 0, 0, 0, 0, 0, 0, 0]], [([4], []), ([0, 1, 2, 3], [])]⟩
def ir_ram_Ram_Held : Vm.Fn := ⟨[0, 1, 2, 3, 8], 0, 0, [.slot 4],
 .seq (.seq (.reg [⟨.mv (.c (.bool false)), none⟩] [] [] [(4, 0, none)])
 (.drop [4] []))
 (.seq (.seq (.reg [⟨.mv (.s 0), none⟩,
   ⟨.mv (.s 2), none⟩,
   ⟨.mv (.s 3), none⟩,
   ⟨.call .val n_ram_Ram_may [(.r 0), (.r 1), (.r 2)], none⟩,
   ⟨.mv (.r 3), none⟩,
   ⟨.mv (.s 1), some (4, true)⟩,
   ⟨.call .val n_ram_isHart [(.r 5)], some (4, true)⟩,
   ⟨.pick (.r 4) (.r 6) (.c (.bool false)), none⟩,
   ⟨.mv (.r 7), none⟩,
   ⟨.mv (.s 0), some (8, true)⟩,
   ⟨.mv (.s 1), some (8, true)⟩,
   ⟨.nilck (.r 9), some (8, true)⟩,
   ⟨.off 3 (.r 11), some (8, true)⟩,
   ⟨.iaA 3 2 (.r 12) (.r 10), some (8, true)⟩,
   ⟨.load 0 true 2 (.r 13), some (8, true)⟩,
   ⟨.mv (.s 2), some (8, true)⟩,
   ⟨.mv (.s 3), some (8, true)⟩,
   ⟨.build [.int .i64 0, .int .i64 0] [(0, 1, (.r 15)), (1, 1, (.r 16))], some (8, true)⟩,
   ⟨.eqa false [.int, .int] (.r 14) (.r 17), some (8, true)⟩,
   ⟨.pick (.r 8) (.r 18) (.c (.bool false)), none⟩,
   ⟨.mv (.r 19), none⟩] [] [] [(4, 20, none)])
 (.drop [0, 1, 2, 3] []))
 (.ret))⟩
/-- 13: undertow/undertowref12.New -/
def h13 : Vm.Hint := ⟨[0, 2, 3, 4, 14], [], [], [[0], [0, 0, 0], [0], [0, 0, 0, 0, 0, 0, 0, 0], [0, 0, 0], [0, 0, 0, 0, 0, 0, 0, 0, 0, 1, 2, 0, 0, 0], [0, 0]], [([1], []), ([], []), ([], []), ([], []), ([], []), ([4], []), ([0, 2, 3, 4], [])]⟩
def ir_undertowref12_Newl0 : C :=
 .seq (.seq (.reg [⟨.mv (.s 3), none⟩,
   ⟨.mv (.s 0), none⟩,
   ⟨.len 1 (.r 1), none⟩,
   ⟨.bin .lss (.r 0) (.r 2), none⟩,
   ⟨.mv (.r 3), none⟩,
   ⟨.mv (.s 3), some (4, true)⟩,
   ⟨.bin .lss (.r 5) (.c (.int .i64 1024)), some (4, true)⟩,
   ⟨.pick (.r 4) (.r 6) (.c (.bool false)), none⟩] [] [] [(4, 7, none)])
 (.cond (.s 4) (.skip)
  (.exit 0)))
 (.seq (.block 1 (.seq (.reg [⟨.mv (.s 2), none⟩,
    ⟨.mv (.s 2), none⟩,
    ⟨.nilck (.r 1), none⟩,
    ⟨.off 0 (.r 2), none⟩,
    ⟨.load 0 false 1 (.r 3), none⟩,
    ⟨.mv (.s 0), none⟩,
    ⟨.mv (.s 3), none⟩,
    ⟨.iaS 1 (.r 5) (.r 6), none⟩,
    ⟨.load 0 false 1 (.r 7), none⟩,
    ⟨.lit 1 1 [[.int .u8 0]] [(0, (.r 8))], none⟩,
    ⟨.app 2 1 1 (.r 4) (.r 9), none⟩,
    ⟨.nilck (.r 0), none⟩,
    ⟨.off 0 (.r 11), none⟩,
    ⟨.store 0 1 (.r 12) (.r 10), none⟩] [] [(4, 7), (4, 8)] [])
  (.drop [4] [])))
 (.reg [⟨.mv (.s 3), none⟩,
   ⟨.bin .add (.r 0) (.c (.int .i64 1)), none⟩,
   ⟨.mv (.r 1), none⟩] [] [] [(3, 2, none)]))
def ir_undertowref12_New : Vm.Fn := ⟨[0, 2, 3, 4, 14], 0, 0, [.slot 1],
 .seq (.seq (.reg [⟨.mv (.c (.nilp)), none⟩] [] [] [(1, 0, none)])
 (.drop [1] []))
 (.seq (.reg [⟨.build [.nils, .nils, .int .i64 0, .int .i64 0, .int .i64 0, .int .u64 0, .int .i64 0, .int .i64 0, .int .i64 0, .int .u64 0, .int .i64 0, .int .i64 0, .int .i64 0, .int .u64 0] [], none⟩,
   ⟨.hbox 14 (.r 0), none⟩,
   ⟨.mv (.r 1), none⟩] [] [] [(2, 2, none)])
 (.seq (.seq (.reg [⟨.mv (.c (.int .i64 0)), none⟩] [] [] [(3, 0, none)])
 (.block 0 (.loop ir_undertowref12_Newl0)))
 (.seq (.seq (.reg [⟨.mv (.s 2), none⟩,
   ⟨.mv (.r 0), none⟩] [] [] [(1, 1, none)])
 (.drop [0, 2, 3, 4] []))
 (.ret))))⟩
/-- 14: (*undertow/undertowref12.Ram).Store -/
def h14 : Vm.Hint := ⟨[0, 1, 2, 5, 6, 7, 8, 28, 47, 69], [5, 8], [], [[1, 0], [0, 0, 0, 0, 0, 0, 0, 0, 0, 0, 0, 0, 0, 0, 0, 0, 0, 0, 0, 0], [0], [0, 0, 0, 0, 0, 0, 0, 0], [0, 0, 0, 0, 0, 0, 1, 2, 0, 0, 0], [0], [0, 0], [0, 0, 0], [0, 0, 0, 0, 0, 0, 2, 0], [0, 0, 0, 0, 0, 0, 0, 0, 0, 0, 0, 0, 0, 0], [0, 0, 0, 0, 0, 0, 0], [0]], [([2, 4], []), ([], []), ([0, 1, 3, 7], [(true, 0)]), ([7], []), ([], []), ([], []), ([], []), ([9], []), ([8], []), ([6], [(true, 1)]), ([9], []), ([0, 1, 3, 5, 8], [(true, 0)])]⟩
def ir_undertowref12_Ram_Storel0 : C :=
 .seq (.seq (.reg [⟨.mv (.s 5), none⟩,
   ⟨.bin .lss (.r 0) (.c (.int .i64 3)), none⟩] [] [] [(8, 1, none)])
 (.cond (.s 8) (.skip)
  (.exit 0)))
 (.seq (.block 1 (.seq (.seq (.reg [⟨.mv (.s 0), none⟩,
    ⟨.mv (.s 5), none⟩,
    ⟨.nilck (.r 0), none⟩,
    ⟨.off 2 (.r 2), none⟩,
    ⟨.iaA 3 4 (.r 3) (.r 1), none⟩,
    ⟨.load 0 true 4 (.r 4), none⟩,
    ⟨.lalloc 1 [.int .i64 0, .int .i64 0, .int .i64 0, .int .u64 0], none⟩,
    ⟨.store 0 4 (.r 6) (.r 5), none⟩] [(true, 1)] [] [(6, 6, some 3)])
  (.drop [8] []))
  (.seq (.seq (.reg [⟨.mv (.s 5), none⟩,
    ⟨.mv (.s 1), none⟩,
    ⟨.bin .neq (.r 0) (.r 1), none⟩,
    ⟨.mv (.r 2), none⟩,
    ⟨.off 1 (.s 6), some (3, true)⟩,
    ⟨.load 0 false 1 (.r 4), some (3, true)⟩,
    ⟨.off 2 (.s 6), some (3, true)⟩,
    ⟨.load 0 false 1 (.r 6), some (3, true)⟩,
    ⟨.off 1 (.s 3), some (3, true)⟩,
    ⟨.load 0 false 1 (.r 8), some (3, true)⟩,
    ⟨.off 2 (.s 3), some (3, true)⟩,
    ⟨.load 0 false 1 (.r 10), some (3, true)⟩,
    ⟨.call .val n_undertowref01_Overlap [(.r 5), (.r 7), (.r 9), (.r 11)], some (3, true)⟩,
    ⟨.pick (.r 3) (.r 12) (.c (.bool false)), none⟩] [] [] [(9, 13, none)])
  (.drop [6] [(true, 1)]))
  (.cond (.s 9) (.seq (.reg [⟨.mv (.s 0), none⟩,
     ⟨.mv (.s 5), none⟩,
     ⟨.build [.int .i64 0, .int .i64 0, .int .i64 0, .int .u64 0] [], none⟩,
     ⟨.nilck (.r 0), none⟩,
     ⟨.off 2 (.r 3), none⟩,
     ⟨.iaA 3 4 (.r 4) (.r 1), none⟩,
     ⟨.store 0 4 (.r 5) (.r 2), none⟩] [] [] [])
   (.drop [9] []))
   (.skip)))))
 (.seq (.reg [⟨.mv (.s 5), none⟩,
   ⟨.bin .add (.r 0) (.c (.int .i64 1)), none⟩,
   ⟨.mv (.r 1), none⟩] [] [] [(5, 2, none)])
 (.drop [9] [])))
def ir_undertowref12_Ram_Store : Vm.Fn := ⟨[0, 1, 2, 5, 6, 7, 8, 28, 47, 69], 2, 0, [.slot 4],
 .seq (.seq (.reg [⟨.lbox 0 4 (.s 2), none⟩,
   ⟨.mv (.c (.bool false)), none⟩] [(true, 0)] [] [(3, 0, some 1), (4, 1, none)])
 (.drop [2, 4] []))
 (.seq (.seq (.reg [⟨.mv (.s 0), none⟩,
   ⟨.off 1 (.s 3), none⟩,
   ⟨.load 0 false 1 (.r 1), none⟩,
   ⟨.off 2 (.s 3), none⟩,
   ⟨.load 0 false 1 (.r 3), none⟩,
   ⟨.call .val n_undertowref12_Ram_May [(.r 0), (.r 2), (.r 4)], none⟩,
   ⟨.un .not (.r 5), none⟩,
   ⟨.mv (.r 6), none⟩,
   ⟨.off 0 (.s 3), some (7, false)⟩,
   ⟨.load 0 false 1 (.r 8), some (7, false)⟩,
   ⟨.bin .lss (.r 9) (.c (.int .i64 0)), some (7, false)⟩,
   ⟨.pick (.r 7) (.c (.bool true)) (.r 10), none⟩,
   ⟨.mv (.r 11), none⟩,
   ⟨.mv (.s 1), some (12, false)⟩,
   ⟨.bin .lss (.r 13) (.c (.int .i64 0)), some (12, false)⟩,
   ⟨.pick (.r 12) (.c (.bool true)) (.r 14), none⟩,
   ⟨.mv (.r 15), none⟩,
   ⟨.mv (.s 1), some (16, false)⟩,
   ⟨.bin .gtr (.r 17) (.c (.int .i64 2)), some (16, false)⟩,
   ⟨.pick (.r 16) (.c (.bool true)) (.r 18), none⟩] [] [] [(7, 19, none)])
 (.cond (.s 7) (.seq (.seq (.reg [⟨.mv (.c (.bool false)), none⟩] [] [] [(4, 0, none)])
  (.drop [0, 1, 3, 7] [(true, 0)]))
  (.ret))
  (.skip)))
 (.seq (.seq (.reg [⟨.off 3 (.s 3), none⟩,
   ⟨.load 0 false 1 (.r 0), none⟩,
   ⟨.off 2 (.s 3), none⟩,
   ⟨.load 0 false 1 (.r 2), none⟩,
   ⟨.bin .mul (.c (.int .i64 8)) (.r 3), none⟩,
   ⟨.call .val n_undertowref01_Zext [(.r 1), (.r 4)], none⟩,
   ⟨.off 3 (.s 3), none⟩,
   ⟨.store 0 1 (.r 6) (.r 5), none⟩] [] [] [])
 (.drop [7] []))
 (.seq (.reg [⟨.mv (.s 0), none⟩,
   ⟨.mv (.s 0), none⟩,
   ⟨.nilck (.r 1), none⟩,
   ⟨.off 1 (.r 2), none⟩,
   ⟨.load 0 false 1 (.r 3), none⟩,
   ⟨.load 0 true 4 (.s 3), none⟩,
   ⟨.lit 1 4 [[.int .i64 0, .int .i64 0, .int .i64 0, .int .u64 0]] [(0, (.r 5))], none⟩,
   ⟨.app 2 4 32 (.r 4) (.r 6), none⟩,
   ⟨.nilck (.r 0), none⟩,
   ⟨.off 1 (.r 8), none⟩,
   ⟨.store 0 1 (.r 9) (.r 7), none⟩] [] [(4, 5)] [])
 (.seq (.seq (.reg [⟨.mv (.c (.int .i64 0)), none⟩] [] [] [(5, 0, none)])
 (.block 0 (.loop ir_undertowref12_Ram_Storel0)))
 (.seq (.seq (.reg [⟨.mv (.c (.bool true)), none⟩] [] [] [(4, 0, none)])
 (.drop [0, 1, 3, 5, 8] [(true, 0)]))
 (.ret))))))⟩
/-- 15: (*undertow/undertowref12.Ram).Reserve -/
def h15 : Vm.Hint := ⟨[0, 1, 2, 3, 8, 21], [], [], [[0], [0, 0, 0, 0, 0, 0, 0, 0, 0, 0, 0, 0, 0], [0], [0, 0, 0, 0, 0, 0, 0, 0, 0], [0]], [([4], []), ([], []), ([0, 1, 2, 3, 5], []), ([0, 1, 2, 3, 5], []), ([], [])]⟩
def ir_undertowref12_Ram_Reserve : Vm.Fn := ⟨[0, 1, 2, 3, 8, 21], 0, 0, [.slot 4],
 .seq (.seq (.reg [⟨.mv (.c (.bool false)), none⟩] [] [] [(4, 0, none)])
 (.drop [4] []))
 (.seq (.seq (.reg [⟨.mv (.s 0), none⟩,
   ⟨.mv (.s 2), none⟩,
   ⟨.mv (.s 3), none⟩,
   ⟨.call .val n_undertowref12_Ram_May [(.r 0), (.r 1), (.r 2)], none⟩,
   ⟨.un .not (.r 3), none⟩,
   ⟨.mv (.r 4), none⟩,
   ⟨.mv (.s 1), some (5, false)⟩,
   ⟨.bin .lss (.r 6) (.c (.int .i64 0)), some (5, false)⟩,
   ⟨.pick (.r 5) (.c (.bool true)) (.r 7), none⟩,
   ⟨.mv (.r 8), none⟩,
   ⟨.mv (.s 1), some (9, false)⟩,
   ⟨.bin .gtr (.r 10) (.c (.int .i64 2)), some (9, false)⟩,
   ⟨.pick (.r 9) (.c (.bool true)) (.r 11), none⟩] [] [] [(5, 12, none)])
 (.cond (.s 5) (.seq (.seq (.reg [⟨.mv (.c (.bool false)), none⟩] [] [] [(4, 0, none)])
  (.drop [0, 1, 2, 3, 5] []))
  (.ret))
  (.skip)))
 (.seq (.seq (.reg [⟨.mv (.s 0), none⟩,
   ⟨.mv (.s 1), none⟩,
   ⟨.mv (.s 2), none⟩,
   ⟨.mv (.s 3), none⟩,
   ⟨.build [.int .i64 0, .int .i64 0, .int .i64 0, .int .u64 0] [(1, 1, (.r 2)), (2, 1, (.r 3))], none⟩,
   ⟨.nilck (.r 0), none⟩,
   ⟨.off 2 (.r 5), none⟩,
   ⟨.iaA 3 4 (.r 6) (.r 1), none⟩,
   ⟨.store 0 4 (.r 7) (.r 4), none⟩] [] [] [])
 (.drop [0, 1, 2, 3, 5] []))
 (.seq (.reg [⟨.mv (.c (.bool true)), none⟩] [] [] [(4, 0, none)])
 (.ret))))⟩
/-- 16: (*undertow/ram.Ram).Drop -/
def h16 : Vm.Hint := ⟨[0, 1, 9], [], [], [[0, 0, 0, 0, 0, 0], [0, 0, 0, 0, 0, 0, 0]], [([], []), ([0, 1, 2], [])]⟩
def ir_ram_Ram_Drop : Vm.Fn := ⟨[0, 1, 9], 0, 0, [],
 .seq (.reg [⟨.mv (.s 0), none⟩,
   ⟨.eqn .ptr true (.r 0) (.c (.nilp)), none⟩,
   ⟨.mv (.r 1), none⟩,
   ⟨.mv (.s 1), some (2, true)⟩,
   ⟨.call .val n_ram_isHart [(.r 3)], some (2, true)⟩,
   ⟨.pick (.r 2) (.r 4) (.c (.bool false)), none⟩] [] [] [(2, 5, none)])
 (.cond (.s 2) (.seq (.reg [⟨.mv (.s 0), none⟩,
    ⟨.mv (.s 1), none⟩,
    ⟨.build [.int .i64 0, .int .i64 0] [], none⟩,
    ⟨.nilck (.r 0), none⟩,
    ⟨.off 3 (.r 3), none⟩,
    ⟨.iaA 3 2 (.r 4) (.r 1), none⟩,
    ⟨.store 0 2 (.r 5) (.r 2), none⟩] [] [] [])
  (.drop [0, 1, 2] []))
  (.skip))⟩
/-- 17: (*undertow/undertowref12.Ram).Drop -/
def h17 : Vm.Hint := ⟨[0, 1, 9], [], [], [[0, 0, 0, 0, 0, 0], [0, 0, 0, 0, 0, 0, 0]], [([], []), ([0, 1, 2], [])]⟩
def ir_undertowref12_Ram_Drop : Vm.Fn := ⟨[0, 1, 9], 0, 0, [],
 .seq (.reg [⟨.mv (.s 1), none⟩,
   ⟨.bin .geq (.r 0) (.c (.int .i64 0)), none⟩,
   ⟨.mv (.r 1), none⟩,
   ⟨.mv (.s 1), some (2, true)⟩,
   ⟨.bin .leq (.r 3) (.c (.int .i64 2)), some (2, true)⟩,
   ⟨.pick (.r 2) (.r 4) (.c (.bool false)), none⟩] [] [] [(2, 5, none)])
 (.cond (.s 2) (.seq (.reg [⟨.mv (.s 0), none⟩,
    ⟨.mv (.s 1), none⟩,
    ⟨.build [.int .i64 0, .int .i64 0, .int .i64 0, .int .u64 0] [], none⟩,
    ⟨.nilck (.r 0), none⟩,
    ⟨.off 2 (.r 3), none⟩,
    ⟨.iaA 3 4 (.r 4) (.r 1), none⟩,
    ⟨.store 0 4 (.r 5) (.r 2), none⟩] [] [] [])
  (.drop [0, 1, 2] []))
  (.skip))⟩
/-- 18: (*undertow/ram.Ram).Load -/
def h18 : Vm.Hint := ⟨[0, 1, 2, 6, 7, 8, 13], [], [], [[0, 0, 0], [0, 0, 0, 0, 0], [0, 0, 0], [0, 0, 0, 0, 0, 0, 0, 0, 0, 0, 0, 0, 0, 0, 0, 0, 0, 0, 0, 0, 0, 0, 0]], [([3, 4, 5], []), ([], []), ([0, 1, 2, 6], []), ([0, 1, 2, 6], [])]⟩
def ir_ram_Ram_Load : Vm.Fn := ⟨[0, 1, 2, 6, 7, 8, 13], 0, 0, [.slot 3, .slot 4, .slot 5],
 .seq (.seq (.reg [⟨.mv (.c (.int .u64 0)), none⟩,
   ⟨.mv (.c (.nils)), none⟩,
   ⟨.mv (.c (.bool false)), none⟩] [] [] [(3, 0, none), (4, 1, none), (5, 2, none)])
 (.drop [3, 4, 5] []))
 (.seq (.seq (.reg [⟨.mv (.s 0), none⟩,
   ⟨.mv (.s 1), none⟩,
   ⟨.mv (.s 2), none⟩,
   ⟨.call .val n_ram_Ram_may [(.r 0), (.r 1), (.r 2)], none⟩,
   ⟨.un .not (.r 3), none⟩] [] [] [(6, 4, none)])
 (.cond (.s 6) (.seq (.seq (.reg [⟨.mv (.c (.int .u64 0)), none⟩,
    ⟨.mv (.c (.nils)), none⟩,
    ⟨.mv (.c (.bool false)), none⟩] [] [] [(3, 0, none), (4, 1, none), (5, 2, none)])
  (.drop [0, 1, 2, 6] []))
  (.ret))
  (.skip)))
 (.seq (.seq (.reg [⟨.mv (.s 0), none⟩,
   ⟨.nilck (.r 0), none⟩,
   ⟨.off 0 (.r 1), none⟩,
   ⟨.load 0 false 1 (.r 2), none⟩,
   ⟨.mv (.s 1), none⟩,
   ⟨.mv (.s 1), none⟩,
   ⟨.mv (.s 2), none⟩,
   ⟨.bin .add (.r 5) (.r 6), none⟩,
   ⟨.slc 1 (.r 3) (some (.r 4)) (some (.r 7)) none, none⟩,
   ⟨.call .val n_word_Of [(.r 8)], none⟩,
   ⟨.mv (.s 0), none⟩,
   ⟨.nilck (.r 10), none⟩,
   ⟨.off 1 (.r 11), none⟩,
   ⟨.load 0 false 1 (.r 12), none⟩,
   ⟨.mv (.s 1), none⟩,
   ⟨.mv (.s 1), none⟩,
   ⟨.mv (.s 2), none⟩,
   ⟨.bin .add (.r 15) (.r 16), none⟩,
   ⟨.slc 1 (.r 13) (some (.r 14)) (some (.r 17)) none, none⟩,
   ⟨.call .val n_slices_Clone_int_int [(.r 18)], none⟩,
   ⟨.mv (.r 9), none⟩,
   ⟨.mv (.r 19), none⟩,
   ⟨.mv (.c (.bool true)), none⟩] [] [(3, 13), (3, 18), (8, 13), (8, 18), (9, 13), (9, 18)] [(3, 20, none), (4, 21, none), (5, 22, none)])
 (.drop [0, 1, 2, 6] []))
 (.ret)))⟩
/-- 19: (*undertow/undertowref12.Ram).May -/
def h19 : Vm.Hint := ⟨[0, 1, 2, 6], [], [], [[0], [0, 0, 0, 0, 0, 0, 0, 0, 0, 0, 0, 0, 0, 0, 0, 0, 0, 0, 0]], [([3], []), ([0, 1, 2], [])]⟩
def ir_undertowref12_Ram_May : Vm.Fn := ⟨[0, 1, 2, 6], 0, 0, [.slot 3],
 .seq (.seq (.reg [⟨.mv (.c (.bool false)), none⟩] [] [] [(3, 0, none)])
 (.drop [3] []))
 (.seq (.seq (.reg [⟨.mv (.s 1), none⟩,
   ⟨.mv (.s 2), none⟩,
   ⟨.call .val n_undertowref01_Aligned [(.r 0), (.r 1)], none⟩,
   ⟨.mv (.r 2), none⟩,
   ⟨.mv (.s 1), some (3, true)⟩,
   ⟨.bin .leq (.r 4) (.c (.int .i64 2000)), some (3, true)⟩,
   ⟨.pick (.r 3) (.r 5) (.c (.bool false)), none⟩,
   ⟨.mv (.r 6), none⟩,
   ⟨.mv (.s 1), some (7, true)⟩,
   ⟨.mv (.s 2), some (7, true)⟩,
   ⟨.bin .add (.r 8) (.r 9), some (7, true)⟩,
   ⟨.mv (.s 0), some (7, true)⟩,
   ⟨.nilck (.r 11), some (7, true)⟩,
   ⟨.off 0 (.r 12), some (7, true)⟩,
   ⟨.load 0 false 1 (.r 13), some (7, true)⟩,
   ⟨.len 1 (.r 14), some (7, true)⟩,
   ⟨.bin .leq (.r 10) (.r 15), some (7, true)⟩,
   ⟨.pick (.r 7) (.r 16) (.c (.bool false)), none⟩,
   ⟨.mv (.r 17), none⟩] [] [] [(3, 18, none)])
 (.drop [0, 1, 2] []))
 (.ret))⟩
/-- 20: (*undertow/undertowref12.Ram).Load -/
def h20 : Vm.Hint := ⟨[0, 1, 2, 6, 7, 8, 9, 10, 11, 12, 18], [], [8, 9], [[0, 0], [1], [2], [0, 0], [0, 0, 0, 0, 0], [0, 0, 0], [0, 0, 0, 0, 0, 0, 0, 0], [0, 0, 1, 2, 0], [0, 0, 1, 2, 0], [0, 0, 0, 0, 0]], [([3, 4], []), ([], []), ([], []), ([], []), ([], []), ([], []), ([10], []), ([8], []), ([9], []), ([0, 1, 2, 5, 6, 7, 10], [(false, 0), (false, 1)])]⟩
def ir_undertowref12_Ram_Loadl0 : C :=
 .seq (.seq (.reg [⟨.mv (.s 7), none⟩,
   ⟨.mv (.s 1), none⟩,
   ⟨.mv (.s 2), none⟩,
   ⟨.bin .add (.r 1) (.r 2), none⟩,
   ⟨.bin .lss (.r 0) (.r 3), none⟩] [] [] [(10, 4, none)])
 (.cond (.s 10) (.skip)
  (.exit 0)))
 (.seq (.block 1 (.seq (.seq (.reg [⟨.mv (.s 0), none⟩,
    ⟨.mv (.s 7), none⟩,
    ⟨.call .val n_undertowref12_Ram_Byte [(.r 0), (.r 1)], none⟩,
    ⟨.mv (.r 2), none⟩,
    ⟨.ext (.r 3) 0, none⟩,
    ⟨.ext (.r 3) 1, none⟩,
    ⟨.mv (.r 4), none⟩,
    ⟨.mv (.r 5), none⟩] [] [] [(8, 6, none), (9, 7, none)])
  (.drop [10] []))
  (.seq (.seq (.reg [⟨.mv (.s 5), none⟩,
    ⟨.mv (.s 8), none⟩,
    ⟨.lit 1 1 [[.int .u8 0]] [(0, (.r 1))], none⟩,
    ⟨.app 2 1 1 (.r 0) (.r 2), none⟩,
    ⟨.mv (.r 3), none⟩] [] [] [(5, 4, some 0)])
  (.drop [8] []))
  (.seq (.reg [⟨.mv (.s 6), none⟩,
    ⟨.mv (.s 9), none⟩,
    ⟨.lit 1 1 [[.int .i64 0]] [(0, (.r 1))], none⟩,
    ⟨.app 2 1 8 (.r 0) (.r 2), none⟩,
    ⟨.mv (.r 3), none⟩] [] [] [(6, 4, some 2)])
  (.drop [9] [])))))
 (.reg [⟨.mv (.s 7), none⟩,
   ⟨.bin .add (.r 0) (.c (.int .i64 1)), none⟩,
   ⟨.mv (.r 1), none⟩] [] [] [(7, 2, none)]))
def ir_undertowref12_Ram_Load : Vm.Fn := ⟨[0, 1, 2, 6, 7, 8, 9, 10, 11, 12, 18], 0, 2, [.slot 3, .slot 4],
 .seq (.seq (.reg [⟨.mv (.c (.int .u64 0)), none⟩,
   ⟨.mv (.c (.nils)), none⟩] [] [] [(3, 0, none), (4, 1, none)])
 (.drop [3, 4] []))
 (.seq (.reg [⟨.onil 0, none⟩] [(false, 0)] [] [(5, 0, some 0)])
 (.seq (.reg [⟨.onil 1, none⟩] [(false, 1)] [] [(6, 0, some 2)])
 (.seq (.seq (.reg [⟨.mv (.s 1), none⟩,
   ⟨.mv (.r 0), none⟩] [] [] [(7, 1, none)])
 (.block 0 (.loop ir_undertowref12_Ram_Loadl0)))
 (.seq (.seq (.reg [⟨.mv (.s 5), none⟩,
   ⟨.call .val n_undertowref01_Of [(.r 0)], none⟩,
   ⟨.mv (.s 6), none⟩,
   ⟨.mv (.r 1), none⟩,
   ⟨.mv (.r 2), none⟩] [] [] [(3, 3, none), (4, 4, none)])
 (.drop [0, 1, 2, 5, 6, 7, 10] [(false, 0), (false, 1)]))
 (.ret)))))⟩
/-- 21: undertow/undertowref02.SameInts -/
def h21 : Vm.Hint := ⟨[0, 1, 4, 5, 10, 14, 25], [], [], [[0], [0, 0, 0, 0, 0], [0], [0], [0, 0, 0, 0], [0, 0, 0], [0, 0, 0, 0, 0, 0, 0, 0, 0], [0], [0]], [([2], []), ([], []), ([0, 1, 4], []), ([4], []), ([], []), ([6], []), ([5], []), ([0, 1, 3, 6], []), ([0, 1, 3, 5], [])]⟩
def ir_undertowref02_SameIntsl0 : C :=
 .seq (.seq (.reg [⟨.mv (.s 3), none⟩,
   ⟨.mv (.s 0), none⟩,
   ⟨.len 1 (.r 1), none⟩,
   ⟨.bin .lss (.r 0) (.r 2), none⟩] [] [] [(5, 3, none)])
 (.cond (.s 5) (.skip)
  (.exit 0)))
 (.seq (.block 1 (.seq (.seq (.reg [⟨.mv (.s 0), none⟩,
    ⟨.mv (.s 3), none⟩,
    ⟨.iaS 1 (.r 0) (.r 1), none⟩,
    ⟨.load 0 false 1 (.r 2), none⟩,
    ⟨.mv (.s 1), none⟩,
    ⟨.mv (.s 3), none⟩,
    ⟨.iaS 1 (.r 4) (.r 5), none⟩,
    ⟨.load 0 false 1 (.r 6), none⟩,
    ⟨.bin .neq (.r 3) (.r 7), none⟩] [] [(2, 6), (2, 7), (3, 6), (3, 7)] [(6, 8, none)])
  (.drop [5] []))
  (.cond (.s 6) (.seq (.seq (.reg [⟨.mv (.c (.bool false)), none⟩] [] [] [(2, 0, none)])
   (.drop [0, 1, 3, 6] []))
   (.ret))
   (.skip))))
 (.seq (.reg [⟨.mv (.s 3), none⟩,
   ⟨.bin .add (.r 0) (.c (.int .i64 1)), none⟩,
   ⟨.mv (.r 1), none⟩] [] [] [(3, 2, none)])
 (.drop [6] [])))
def ir_undertowref02_SameInts : Vm.Fn := ⟨[0, 1, 4, 5, 10, 14, 25], 0, 0, [.slot 2],
 .seq (.seq (.reg [⟨.mv (.c (.bool false)), none⟩] [] [] [(2, 0, none)])
 (.drop [2] []))
 (.seq (.seq (.reg [⟨.mv (.s 0), none⟩,
   ⟨.len 1 (.r 0), none⟩,
   ⟨.mv (.s 1), none⟩,
   ⟨.len 1 (.r 2), none⟩,
   ⟨.bin .neq (.r 1) (.r 3), none⟩] [] [] [(4, 4, none)])
 (.cond (.s 4) (.seq (.seq (.reg [⟨.mv (.c (.bool false)), none⟩] [] [] [(2, 0, none)])
  (.drop [0, 1, 4] []))
  (.ret))
  (.skip)))
 (.seq (.seq (.seq (.reg [⟨.mv (.c (.int .i64 0)), none⟩] [] [] [(3, 0, none)])
 (.drop [4] []))
 (.block 0 (.loop ir_undertowref02_SameIntsl0)))
 (.seq (.seq (.reg [⟨.mv (.c (.bool true)), none⟩] [] [] [(2, 0, none)])
 (.drop [0, 1, 3, 5] []))
 (.ret))))⟩
/-- 22: (*undertow/undertowref12.Ram).Has -/
def h22 : Vm.Hint := ⟨[0, 1, 2, 3, 8], [], [], [[0], [0, 0, 0, 0, 0, 0, 0, 0, 0, 0, 0, 0, 0, 0, 0, 0, 0, 0, 0, 0, 0, 0, 0, 0, 0, 0, 0, 0, 0, 0, 0, 0, 0, 0, 0]], [([4], []), ([0, 1, 2, 3], [])]⟩
def ir_undertowref12_Ram_Has : Vm.Fn := ⟨[0, 1, 2, 3, 8], 0, 0, [.slot 4],
 .seq (.seq (.reg [⟨.mv (.c (.bool false)), none⟩] [] [] [(4, 0, none)])
 (.drop [4] []))
 (.seq (.seq (.reg [⟨.mv (.s 0), none⟩,
   ⟨.mv (.s 2), none⟩,
   ⟨.mv (.s 3), none⟩,
   ⟨.call .val n_undertowref12_Ram_May [(.r 0), (.r 1), (.r 2)], none⟩,
   ⟨.mv (.r 3), none⟩,
   ⟨.mv (.s 1), some (4, true)⟩,
   ⟨.bin .geq (.r 5) (.c (.int .i64 0)), some (4, true)⟩,
   ⟨.pick (.r 4) (.r 6) (.c (.bool false)), none⟩,
   ⟨.mv (.r 7), none⟩,
   ⟨.mv (.s 1), some (8, true)⟩,
   ⟨.bin .leq (.r 9) (.c (.int .i64 2)), some (8, true)⟩,
   ⟨.pick (.r 8) (.r 10) (.c (.bool false)), none⟩,
   ⟨.mv (.r 11), none⟩,
   ⟨.mv (.s 0), some (12, true)⟩,
   ⟨.mv (.s 1), some (12, true)⟩,
   ⟨.nilck (.r 13), some (12, true)⟩,
   ⟨.off 2 (.r 15), some (12, true)⟩,
   ⟨.iaA 3 4 (.r 16) (.r 14), some (12, true)⟩,
   ⟨.off 2 (.r 17), some (12, true)⟩,
   ⟨.load 0 false 1 (.r 18), some (12, true)⟩,
   ⟨.mv (.s 3), some (12, true)⟩,
   ⟨.bin .eql (.r 19) (.r 20), some (12, true)⟩,
   ⟨.pick (.r 12) (.r 21) (.c (.bool false)), none⟩,
   ⟨.mv (.r 22), none⟩,
   ⟨.mv (.s 0), some (23, true)⟩,
   ⟨.mv (.s 1), some (23, true)⟩,
   ⟨.nilck (.r 24), some (23, true)⟩,
   ⟨.off 2 (.r 26), some (23, true)⟩,
   ⟨.iaA 3 4 (.r 27) (.r 25), some (23, true)⟩,
   ⟨.off 1 (.r 28), some (23, true)⟩,
   ⟨.load 0 false 1 (.r 29), some (23, true)⟩,
   ⟨.mv (.s 2), some (23, true)⟩,
   ⟨.bin .eql (.r 30) (.r 31), some (23, true)⟩,
   ⟨.pick (.r 23) (.r 32) (.c (.bool false)), none⟩,
   ⟨.mv (.r 33), none⟩] [] [] [(4, 34, none)])
 (.drop [0, 1, 2, 3] []))
 (.ret))⟩
/-- 23: undertow/undertowlaw12.same -/
def h23 : Vm.Hint := ⟨[0, 1, 4], [], [], [[0], [0, 0, 0, 0, 0, 0, 0, 0, 0, 0, 0, 0, 0, 0, 0, 0, 0, 0, 0, 0, 0, 0]], [([2], []), ([0, 1], [])]⟩
def ir_undertowlaw12_same : Vm.Fn := ⟨[0, 1, 4], 0, 0, [.slot 2],
 .seq (.seq (.reg [⟨.mv (.c (.bool false)), none⟩] [] [] [(2, 0, none)])
 (.drop [2] []))
 (.seq (.seq (.reg [⟨.mv (.s 0), none⟩,
   ⟨.call .val n_ram_Ram_Bytes [(.r 0)], none⟩,
   ⟨.mv (.s 1), none⟩,
   ⟨.call .val n_undertowref12_Ram_Bytes [(.r 2)], none⟩,
   ⟨.call .val n_undertowref01_SameBytes [(.r 1), (.r 3)], none⟩,
   ⟨.mv (.r 4), none⟩,
   ⟨.mv (.s 0), some (5, true)⟩,
   ⟨.call .val n_ram_Ram_Tags [(.r 6)], some (5, true)⟩,
   ⟨.mv (.s 1), some (5, true)⟩,
   ⟨.call .val n_undertowref12_Ram_Tags [(.r 8)], some (5, true)⟩,
   ⟨.call .val n_undertowref02_SameInts [(.r 7), (.r 9)], some (5, true)⟩,
   ⟨.pick (.r 5) (.r 10) (.c (.bool false)), none⟩,
   ⟨.mv (.r 11), none⟩,
   ⟨.mv (.s 0), some (12, true)⟩,
   ⟨.call .val n_ram_Ram_Log [(.r 13)], some (12, true)⟩,
   ⟨.mv (.s 1), some (12, true)⟩,
   ⟨.nilck (.r 15), some (12, true)⟩,
   ⟨.off 1 (.r 16), some (12, true)⟩,
   ⟨.load 0 false 1 (.r 17), some (12, true)⟩,
   ⟨.call .val n_undertowref12_SameWrites [(.r 14), (.r 18)], some (12, true)⟩,
   ⟨.pick (.r 12) (.r 19) (.c (.bool false)), none⟩,
   ⟨.mv (.r 20), none⟩] [] [(14, 18)] [(2, 21, none)])
 (.drop [0, 1] []))
 (.ret))⟩
/-- 24: (*undertow/ram.Ram).Bytes -/
def h24 : Vm.Hint := ⟨[0, 2, 4], [], [], [[0], [0, 0], [0], [0, 0, 0, 0, 0, 0]], [([1], []), ([], []), ([0, 2], []), ([0, 2], [])]⟩
def ir_ram_Ram_Bytes : Vm.Fn := ⟨[0, 2, 4], 0, 0, [.slot 1],
 .seq (.seq (.reg [⟨.mv (.c (.nils)), none⟩] [] [] [(1, 0, none)])
 (.drop [1] []))
 (.seq (.seq (.reg [⟨.mv (.s 0), none⟩,
   ⟨.eqn .ptr false (.r 0) (.c (.nilp)), none⟩] [] [] [(2, 1, none)])
 (.cond (.s 2) (.seq (.seq (.reg [⟨.mv (.c (.nils)), none⟩] [] [] [(1, 0, none)])
  (.drop [0, 2] []))
  (.ret))
  (.skip)))
 (.seq (.seq (.reg [⟨.mv (.s 0), none⟩,
   ⟨.nilck (.r 0), none⟩,
   ⟨.off 0 (.r 1), none⟩,
   ⟨.load 0 false 1 (.r 2), none⟩,
   ⟨.call .val n_slices_Clone_byte_byte [(.r 3)], none⟩,
   ⟨.mv (.r 4), none⟩] [] [] [(1, 5, none)])
 (.drop [0, 2] []))
 (.ret)))⟩
/-- 25: (*undertow/ram.Ram).Tags -/
def h25 : Vm.Hint := ⟨[0, 2, 4], [], [], [[0], [0, 0], [0], [0, 0, 0, 0, 0, 0]], [([1], []), ([], []), ([0, 2], []), ([0, 2], [])]⟩
def ir_ram_Ram_Tags : Vm.Fn := ⟨[0, 2, 4], 0, 0, [.slot 1],
 .seq (.seq (.reg [⟨.mv (.c (.nils)), none⟩] [] [] [(1, 0, none)])
 (.drop [1] []))
 (.seq (.seq (.reg [⟨.mv (.s 0), none⟩,
   ⟨.eqn .ptr false (.r 0) (.c (.nilp)), none⟩] [] [] [(2, 1, none)])
 (.cond (.s 2) (.seq (.seq (.reg [⟨.mv (.c (.nils)), none⟩] [] [] [(1, 0, none)])
  (.drop [0, 2] []))
  (.ret))
  (.skip)))
 (.seq (.seq (.reg [⟨.mv (.s 0), none⟩,
   ⟨.nilck (.r 0), none⟩,
   ⟨.off 1 (.r 1), none⟩,
   ⟨.load 0 false 1 (.r 2), none⟩,
   ⟨.call .val n_slices_Clone_int_int [(.r 3)], none⟩,
   ⟨.mv (.r 4), none⟩] [] [] [(1, 5, none)])
 (.drop [0, 2] []))
 (.ret)))⟩
/-- 26: (*undertow/ram.Ram).Log -/
def h26 : Vm.Hint := ⟨[0, 2, 4], [], [], [[0], [0, 0], [0], [0, 0, 0, 0, 0, 0]], [([1], []), ([], []), ([0, 2], []), ([0, 2], [])]⟩
def ir_ram_Ram_Log : Vm.Fn := ⟨[0, 2, 4], 0, 0, [.slot 1],
 .seq (.seq (.reg [⟨.mv (.c (.nils)), none⟩] [] [] [(1, 0, none)])
 (.drop [1] []))
 (.seq (.seq (.reg [⟨.mv (.s 0), none⟩,
   ⟨.eqn .ptr false (.r 0) (.c (.nilp)), none⟩] [] [] [(2, 1, none)])
 (.cond (.s 2) (.seq (.seq (.reg [⟨.mv (.c (.nils)), none⟩] [] [] [(1, 0, none)])
  (.drop [0, 2] []))
  (.ret))
  (.skip)))
 (.seq (.seq (.reg [⟨.mv (.s 0), none⟩,
   ⟨.nilck (.r 0), none⟩,
   ⟨.off 2 (.r 1), none⟩,
   ⟨.load 0 false 1 (.r 2), none⟩,
   ⟨.call .val n_slices_Clone_api_Write_api_Write [(.r 3)], none⟩,
   ⟨.mv (.r 4), none⟩] [] [] [(1, 5, none)])
 (.drop [0, 2] []))
 (.ret)))⟩
/-- 27: slices.Clone[[]byte,byte] -/
def h27 : Vm.Hint := ⟨[0, 2, 4], [], [], [[0], [0, 0], [0], [0, 0, 0, 0]], [([1], []), ([], []), ([0, 2], []), ([0, 2], [])]⟩
def ir_slices_Clone_byte_byte : Vm.Fn := ⟨[0, 2, 4], 0, 0, [.slot 1],
 .seq (.seq (.reg [⟨.mv (.c (.nils)), none⟩] [] [] [(1, 0, none)])
 (.drop [1] []))
 (.seq (.seq (.reg [⟨.mv (.s 0), none⟩,
   ⟨.eqn .slice false (.r 0) (.c (.nils)), none⟩] [] [] [(2, 1, none)])
 (.cond (.s 2) (.seq (.seq (.reg [⟨.mv (.c (.nils)), none⟩] [] [] [(1, 0, none)])
  (.drop [0, 2] []))
  (.ret))
  (.skip)))
 (.seq (.seq (.reg [⟨.lit 0 1 [] [], none⟩,
   ⟨.mv (.s 0), none⟩,
   ⟨.app 0 1 1 (.r 0) (.r 1), none⟩,
   ⟨.mv (.r 2), none⟩] [] [] [(1, 3, none)])
 (.drop [0, 2] []))
 (.ret)))⟩
/-- 28: (*undertow/ram.Ram).may -/
def h28 : Vm.Hint := ⟨[0, 1, 2, 6], [], [], [[0], [0, 0, 0, 0, 0, 0, 0, 0, 0, 0, 0, 0, 0, 0, 0, 0, 0, 0, 0, 0, 0, 0, 0, 0, 0, 0, 0, 0]], [([3], []), ([0, 1, 2], [])]⟩
def ir_ram_Ram_may : Vm.Fn := ⟨[0, 1, 2, 6], 0, 0, [.slot 3],
 .seq (.seq (.reg [⟨.mv (.c (.bool false)), none⟩] [] [] [(3, 0, none)])
 (.drop [3] []))
 (.seq (.seq (.reg [⟨.mv (.s 0), none⟩,
   ⟨.eqn .ptr true (.r 0) (.c (.nilp)), none⟩,
   ⟨.mv (.r 1), none⟩,
   ⟨.mv (.s 1), some (2, true)⟩,
   ⟨.mv (.s 2), some (2, true)⟩,
   ⟨.call .val n_word_Aligned [(.r 3), (.r 4)], some (2, true)⟩,
   ⟨.pick (.r 2) (.r 5) (.c (.bool false)), none⟩,
   ⟨.mv (.r 6), none⟩,
   ⟨.mv (.s 2), some (7, true)⟩,
   ⟨.mv (.s 0), some (7, true)⟩,
   ⟨.nilck (.r 9), some (7, true)⟩,
   ⟨.off 0 (.r 10), some (7, true)⟩,
   ⟨.load 0 false 1 (.r 11), some (7, true)⟩,
   ⟨.len 1 (.r 12), some (7, true)⟩,
   ⟨.bin .leq (.r 8) (.r 13), some (7, true)⟩,
   ⟨.pick (.r 7) (.r 14) (.c (.bool false)), none⟩,
   ⟨.mv (.r 15), none⟩,
   ⟨.mv (.s 1), some (16, true)⟩,
   ⟨.mv (.s 0), some (16, true)⟩,
   ⟨.nilck (.r 18), some (16, true)⟩,
   ⟨.off 0 (.r 19), some (16, true)⟩,
   ⟨.load 0 false 1 (.r 20), some (16, true)⟩,
   ⟨.len 1 (.r 21), some (16, true)⟩,
   ⟨.mv (.s 2), some (16, true)⟩,
   ⟨.bin .sub (.r 22) (.r 23), some (16, true)⟩,
   ⟨.bin .leq (.r 17) (.r 24), some (16, true)⟩,
   ⟨.pick (.r 16) (.r 25) (.c (.bool false)), none⟩,
   ⟨.mv (.r 26), none⟩] [] [] [(3, 27, none)])
 (.drop [0, 1, 2] []))
 (.ret))⟩
/-- 29: undertow/ram.isHart -/
def h29 : Vm.Hint := ⟨[0, 2], [], [], [[0], [0, 0, 0, 0, 0, 0, 0]], [([1], []), ([0], [])]⟩
def ir_ram_isHart : Vm.Fn := ⟨[0, 2], 0, 0, [.slot 1],
 .seq (.seq (.reg [⟨.mv (.c (.bool false)), none⟩] [] [] [(1, 0, none)])
 (.drop [1] []))
 (.seq (.seq (.reg [⟨.mv (.s 0), none⟩,
   ⟨.bin .geq (.r 0) (.c (.int .i64 0)), none⟩,
   ⟨.mv (.r 1), none⟩,
   ⟨.mv (.s 0), some (2, true)⟩,
   ⟨.bin .lss (.r 3) (.c (.int .i64 3)), some (2, true)⟩,
   ⟨.pick (.r 2) (.r 4) (.c (.bool false)), none⟩,
   ⟨.mv (.r 5), none⟩] [] [] [(1, 6, none)])
 (.drop [0] []))
 (.ret))⟩
/-- 30: undertow/word.Zext -/
def h30 : Vm.Hint := ⟨[0, 1, 4, 5, 8], [], [], [[0], [0, 0, 0], [0], [0, 0, 0], [0, 0], [0, 0, 0, 0, 0, 0]], []⟩
def ir_word_Zext : Vm.Fn := ⟨[0, 1, 4, 5, 8], 0, 0, [.slot 2],
 .seq (.reg [⟨.mv (.c (.int .u64 0)), none⟩] [] [] [(2, 0, none)])
 (.seq (.block 0 (.seq (.reg [⟨.mv (.s 1), none⟩,
    ⟨.bin .lss (.r 0) (.c (.int .i64 1)), none⟩,
    ⟨.mv (.r 1), none⟩] [] [] [(3, 2, none)])
  (.cond (.s 3) (.seq (.reg [⟨.mv (.c (.int .u64 0)), none⟩] [] [] [(2, 0, none)])
   (.ret))
   (.seq (.reg [⟨.mv (.s 1), none⟩,
     ⟨.bin .geq (.r 0) (.c (.int .i64 64)), none⟩,
     ⟨.mv (.r 1), none⟩] [] [] [(4, 2, none)])
   (.cond (.s 4) (.seq (.reg [⟨.mv (.s 0), none⟩,
      ⟨.mv (.r 0), none⟩] [] [] [(2, 1, none)])
    (.ret))
    (.skip))))))
 (.seq (.reg [⟨.mv (.s 0), none⟩,
   ⟨.mv (.s 1), none⟩,
   ⟨.bin .shl (.c (.int .u64 1)) (.r 1), none⟩,
   ⟨.bin .sub (.r 2) (.c (.int .u64 1)), none⟩,
   ⟨.bin .and (.r 0) (.r 3), none⟩,
   ⟨.mv (.r 4), none⟩] [] [] [(2, 5, none)])
 (.ret)))⟩
/-- 31: undertow/word.Bytes -/
def h31 : Vm.Hint := ⟨[0, 1, 4, 5, 7, 8, 9], [], [5], [[0], [1], [0, 0, 0], [0], [0, 0, 0, 1, 2, 0], [0, 0, 0], [0, 0], [0, 0]], []⟩
def ir_word_Bytesl0 : C :=
 .seq (.reg [⟨.bin .lss (.s 5) (.s 4), none⟩] [] [] [(6, 0, none)])
 (.seq (.cond (.s 6) (.skip)
  (.exit 0))
 (.seq (.block 1 (.seq (.reg [⟨.mv (.s 3), none⟩,
    ⟨.mv (.s 0), none⟩,
    ⟨.i2i .u8 (.r 1), none⟩,
    ⟨.lit 1 1 [[.int .u8 0]] [(0, (.r 2))], none⟩,
    ⟨.app 2 1 1 (.r 0) (.r 3), none⟩,
    ⟨.mv (.r 4), none⟩] [] [] [(3, 5, some 0)])
  (.reg [⟨.mv (.s 0), none⟩,
    ⟨.bin .shr (.r 0) (.c (.int .u64 8)), none⟩,
    ⟨.mv (.r 1), none⟩] [] [] [(0, 2, none)])))
 (.reg [⟨.bin .add (.s 5) (.c (.int .i64 1)), none⟩,
   ⟨.mv (.r 0), none⟩] [] [] [(5, 1, none)])))
def ir_word_Bytes : Vm.Fn := ⟨[0, 1, 4, 5, 7, 8, 9], 0, 1, [.slot 2],
 .seq (.reg [⟨.mv (.c (.nils)), none⟩] [] [] [(2, 0, none)])
 (.seq (.reg [⟨.onil 0, none⟩] [(false, 0)] [] [(3, 0, some 0)])
 (.seq (.seq (.reg [⟨.mv (.s 1), none⟩,
   ⟨.min [(.r 0), (.c (.int .i64 8))], none⟩,
   ⟨.mv (.c (.int .i64 0)), none⟩] [] [] [(4, 1, none), (5, 2, none)])
 (.block 0 (.loop ir_word_Bytesl0)))
 (.seq (.reg [⟨.mv (.s 3), none⟩,
   ⟨.mv (.r 0), none⟩] [] [] [(2, 1, none)])
 (.ret))))⟩
/-- 32: undertow/word.Overlap -/
def h32 : Vm.Hint := ⟨[0, 1, 2, 3, 8, 9, 10, 11, 21, 22, 23, 24, 26, 27, 28, 36], [], [], [[0], [0, 0, 0, 0, 0, 0, 0, 0, 0, 0], [0], [0], [0, 0], [0], [0, 0], [0, 0], [0], [0, 0], [0, 0, 0, 0, 0, 0, 0], [0], [0, 0], [0, 0], [0, 0]], []⟩
def ir_word_Overlapl0 : C :=
 .seq (.reg [⟨.bin .lss (.s 13) (.s 12), none⟩] [] [] [(14, 0, none)])
 (.seq (.cond (.s 14) (.skip)
  (.exit 2))
 (.seq (.block 3 (.seq (.reg [⟨.mv (.s 13), none⟩,
    ⟨.mv (.r 0), none⟩] [] [] [(7, 1, none)])
  (.seq (.reg [⟨.mv (.s 0), none⟩,
    ⟨.mv (.s 6), none⟩,
    ⟨.bin .add (.r 0) (.r 1), none⟩,
    ⟨.mv (.s 2), none⟩,
    ⟨.mv (.s 7), none⟩,
    ⟨.bin .add (.r 3) (.r 4), none⟩,
    ⟨.bin .eql (.r 2) (.r 5), none⟩] [] [] [(15, 6, none)])
  (.cond (.s 15) (.seq (.reg [⟨.mv (.c (.bool true)), none⟩] [] [] [(5, 0, none)])
   (.exit 0))
   (.skip)))))
 (.reg [⟨.bin .add (.s 13) (.c (.int .i64 1)), none⟩,
   ⟨.mv (.r 0), none⟩] [] [] [(13, 1, none)])))
def ir_word_Overlapl1 : C :=
 .seq (.reg [⟨.bin .lss (.s 10) (.s 9), none⟩] [] [] [(11, 0, none)])
 (.seq (.cond (.s 11) (.skip)
  (.exit 0))
 (.seq (.block 1 (.seq (.reg [⟨.mv (.s 10), none⟩,
    ⟨.mv (.r 0), none⟩] [] [] [(6, 1, none)])
  (.seq (.reg [⟨.mv (.s 3), none⟩,
    ⟨.mv (.c (.int .i64 0)), none⟩] [] [] [(12, 0, none), (13, 1, none)])
  (.block 2 (.loop ir_word_Overlapl0)))))
 (.reg [⟨.bin .add (.s 10) (.c (.int .i64 1)), none⟩,
   ⟨.mv (.r 0), none⟩] [] [] [(10, 1, none)])))
def ir_word_Overlap : Vm.Fn := ⟨[0, 1, 2, 3, 8, 9, 10, 11, 21, 22, 23, 24, 26, 27, 28, 36], 0, 0, [.slot 4],
 .seq (.reg [⟨.mv (.c (.bool false)), none⟩] [] [] [(4, 0, none)])
 (.seq (.seq (.reg [⟨.mv (.s 0), none⟩,
   ⟨.mv (.s 1), none⟩,
   ⟨.call .val n_word_isRange [(.r 0), (.r 1)], none⟩,
   ⟨.un .not (.r 2), none⟩,
   ⟨.mv (.r 3), none⟩,
   ⟨.mv (.s 2), some (4, false)⟩,
   ⟨.mv (.s 3), some (4, false)⟩,
   ⟨.call .val n_word_isRange [(.r 5), (.r 6)], some (4, false)⟩,
   ⟨.un .not (.r 7), some (4, false)⟩,
   ⟨.pick (.r 4) (.c (.bool true)) (.r 8), none⟩] [] [] [(8, 9, none)])
 (.cond (.s 8) (.seq (.reg [⟨.mv (.c (.bool false)), none⟩] [] [] [(4, 0, none)])
  (.ret))
  (.skip)))
 (.seq (.reg [⟨.mv (.c (.bool false)), none⟩] [] [] [(5, 0, none)])
 (.seq (.seq (.reg [⟨.mv (.s 1), none⟩,
   ⟨.mv (.c (.int .i64 0)), none⟩] [] [] [(9, 0, none), (10, 1, none)])
 (.block 0 (.loop ir_word_Overlapl1)))
 (.seq (.reg [⟨.mv (.s 5), none⟩,
   ⟨.mv (.r 0), none⟩] [] [] [(4, 1, none)])
 (.ret)))))⟩
/-- 33: undertow/undertowref01.Zext -/
def h33 : Vm.Hint := ⟨[0, 1, 4, 5, 6, 13, 21], [], [], [[0], [0], [0], [0, 0, 0, 0, 0, 0, 0], [0, 0, 0], [0, 0, 0, 0, 0, 0], [0, 0, 0, 0, 0, 0], [0, 0]], []⟩
def ir_undertowref01_Zextl0 : C :=
 .seq (.seq (.reg [⟨.mv (.s 4), none⟩,
   ⟨.bin .lss (.r 0) (.c (.int .i64 64)), none⟩,
   ⟨.mv (.r 1), none⟩,
   ⟨.mv (.s 4), some (2, true)⟩,
   ⟨.mv (.s 1), some (2, true)⟩,
   ⟨.bin .lss (.r 3) (.r 4), some (2, true)⟩,
   ⟨.pick (.r 2) (.r 5) (.c (.bool false)), none⟩] [] [] [(5, 6, none)])
 (.cond (.s 5) (.skip)
  (.exit 0)))
 (.seq (.block 1 (.seq (.reg [⟨.mv (.s 0), none⟩,
    ⟨.mv (.s 4), none⟩,
    ⟨.i2i .u64 (.r 1), none⟩,
    ⟨.bin .shr (.r 0) (.r 2), none⟩,
    ⟨.bin .and (.r 3) (.c (.int .u64 1)), none⟩,
    ⟨.bin .eql (.r 4) (.c (.int .u64 1)), none⟩] [] [] [(6, 5, none)])
  (.cond (.s 6) (.reg [⟨.mv (.s 3), none⟩,
     ⟨.mv (.s 4), none⟩,
     ⟨.i2i .u64 (.r 1), none⟩,
     ⟨.bin .shl (.c (.int .u64 1)) (.r 2), none⟩,
     ⟨.bin .add (.r 0) (.r 3), none⟩,
     ⟨.mv (.r 4), none⟩] [] [] [(3, 5, none)])
   (.skip))))
 (.reg [⟨.mv (.s 4), none⟩,
   ⟨.bin .add (.r 0) (.c (.int .i64 1)), none⟩,
   ⟨.mv (.r 1), none⟩] [] [] [(4, 2, none)]))
def ir_undertowref01_Zext : Vm.Fn := ⟨[0, 1, 4, 5, 6, 13, 21], 0, 0, [.slot 2],
 .seq (.reg [⟨.mv (.c (.int .u64 0)), none⟩] [] [] [(2, 0, none)])
 (.seq (.reg [⟨.mv (.c (.int .u64 0)), none⟩] [] [] [(3, 0, none)])
 (.seq (.seq (.reg [⟨.mv (.c (.int .i64 0)), none⟩] [] [] [(4, 0, none)])
 (.block 0 (.loop ir_undertowref01_Zextl0)))
 (.seq (.reg [⟨.mv (.s 3), none⟩,
   ⟨.mv (.r 0), none⟩] [] [] [(2, 1, none)])
 (.ret))))⟩
/-- 34: undertow/word.Of -/
def h34 : Vm.Hint := ⟨[0, 2, 3, 4, 10], [], [], [[0], [0], [0, 0, 0, 0, 0], [0, 0], [0, 0, 0], [0, 0, 0, 0, 0, 0, 0, 0, 0], [0, 0]], [([1], []), ([], []), ([], []), ([], []), ([], []), ([4], []), ([0, 2, 3, 4], [])]⟩
def ir_word_Ofl0 : C :=
 .seq (.seq (.reg [⟨.mv (.s 3), none⟩,
   ⟨.bin .geq (.r 0) (.c (.int .i64 0)), none⟩] [] [] [(4, 1, none)])
 (.cond (.s 4) (.skip)
  (.exit 0)))
 (.seq (.block 1 (.seq (.reg [⟨.mv (.s 2), none⟩,
    ⟨.bin .shl (.r 0) (.c (.int .u64 8)), none⟩,
    ⟨.mv (.s 0), none⟩,
    ⟨.mv (.s 3), none⟩,
    ⟨.iaS 1 (.r 2) (.r 3), none⟩,
    ⟨.load 0 false 1 (.r 4), none⟩,
    ⟨.i2i .u64 (.r 5), none⟩,
    ⟨.bin .or (.r 1) (.r 6), none⟩,
    ⟨.mv (.r 7), none⟩] [] [] [(2, 8, none)])
  (.drop [4] [])))
 (.reg [⟨.mv (.s 3), none⟩,
   ⟨.bin .sub (.r 0) (.c (.int .i64 1)), none⟩,
   ⟨.mv (.r 1), none⟩] [] [] [(3, 2, none)]))
def ir_word_Of : Vm.Fn := ⟨[0, 2, 3, 4, 10], 0, 0, [.slot 1],
 .seq (.seq (.reg [⟨.mv (.c (.int .u64 0)), none⟩] [] [] [(1, 0, none)])
 (.drop [1] []))
 (.seq (.reg [⟨.mv (.c (.int .u64 0)), none⟩] [] [] [(2, 0, none)])
 (.seq (.seq (.reg [⟨.mv (.s 0), none⟩,
   ⟨.len 1 (.r 0), none⟩,
   ⟨.min [(.r 1), (.c (.int .i64 8))], none⟩,
   ⟨.bin .sub (.r 2) (.c (.int .i64 1)), none⟩,
   ⟨.mv (.r 3), none⟩] [] [] [(3, 4, none)])
 (.block 0 (.loop ir_word_Ofl0)))
 (.seq (.seq (.reg [⟨.mv (.s 2), none⟩,
   ⟨.mv (.r 0), none⟩] [] [] [(1, 1, none)])
 (.drop [0, 2, 3, 4] []))
 (.ret))))⟩
/-- 35: slices.Clone[[]int,int] -/
def h35 : Vm.Hint := ⟨[0, 2, 4], [], [2], [[1], [0, 0], [1], [0, 0, 3, 0]], [([1], [(false, 0)]), ([], []), ([0, 2], []), ([0, 2], [])]⟩
def ir_slices_Clone_int_int : Vm.Fn := ⟨[0, 2, 4], 0, 1, [.slot 1],
 .seq (.seq (.reg [⟨.onil 0, none⟩] [(false, 0)] [] [(1, 0, some 0)])
 (.drop [1] [(false, 0)]))
 (.seq (.seq (.reg [⟨.mv (.s 0), none⟩,
   ⟨.eqn .slice false (.r 0) (.c (.nils)), none⟩] [] [] [(2, 1, none)])
 (.cond (.s 2) (.seq (.seq (.reg [⟨.onil 0, none⟩] [(false, 0)] [] [(1, 0, some 0)])
  (.drop [0, 2] []))
  (.ret))
  (.skip)))
 (.seq (.seq (.reg [⟨.lit 0 1 [] [], none⟩,
   ⟨.mv (.s 0), none⟩,
   ⟨.appR 0 1 8 (.r 0) (.r 1), none⟩,
   ⟨.mv (.r 2), none⟩] [(false, 0)] [] [(1, 3, some 0)])
 (.drop [0, 2] []))
 (.ret)))⟩
/-- 36: undertow/undertowref01.Aligned -/
def h36 : Vm.Hint := ⟨[0, 1, 4], [], [], [[0], [0, 0, 0, 0, 0, 0, 0, 0, 0, 0, 0, 0, 0, 0, 0, 0, 0, 0, 0, 0, 0, 0, 0, 0, 0, 0, 0, 0]], []⟩
def ir_undertowref01_Aligned : Vm.Fn := ⟨[0, 1, 4], 0, 0, [.slot 2],
 .seq (.reg [⟨.mv (.c (.bool false)), none⟩] [] [] [(2, 0, none)])
 (.seq (.reg [⟨.mv (.s 1), none⟩,
   ⟨.bin .eql (.r 0) (.c (.int .i64 1)), none⟩,
   ⟨.mv (.r 1), none⟩,
   ⟨.mv (.s 1), some (2, false)⟩,
   ⟨.bin .eql (.r 3) (.c (.int .i64 2)), some (2, false)⟩,
   ⟨.pick (.r 2) (.c (.bool true)) (.r 4), none⟩,
   ⟨.mv (.r 5), none⟩,
   ⟨.mv (.s 1), some (6, false)⟩,
   ⟨.bin .eql (.r 7) (.c (.int .i64 4)), some (6, false)⟩,
   ⟨.pick (.r 6) (.c (.bool true)) (.r 8), none⟩,
   ⟨.mv (.r 9), none⟩,
   ⟨.mv (.s 1), some (10, false)⟩,
   ⟨.bin .eql (.r 11) (.c (.int .i64 8)), some (10, false)⟩,
   ⟨.pick (.r 10) (.c (.bool true)) (.r 12), none⟩,
   ⟨.mv (.r 13), none⟩,
   ⟨.mv (.s 0), some (14, true)⟩,
   ⟨.bin .geq (.r 15) (.c (.int .i64 0)), some (14, true)⟩,
   ⟨.pick (.r 14) (.r 16) (.c (.bool false)), none⟩,
   ⟨.mv (.r 17), none⟩,
   ⟨.mv (.s 0), some (18, true)⟩,
   ⟨.mv (.s 1), some (18, true)⟩,
   ⟨.bin .quo (.r 19) (.r 20), some (18, true)⟩,
   ⟨.mv (.s 1), some (18, true)⟩,
   ⟨.bin .mul (.r 21) (.r 22), some (18, true)⟩,
   ⟨.mv (.s 0), some (18, true)⟩,
   ⟨.bin .eql (.r 23) (.r 24), some (18, true)⟩,
   ⟨.pick (.r 18) (.r 25) (.c (.bool false)), none⟩,
   ⟨.mv (.r 26), none⟩] [] [] [(2, 27, none)])
 (.ret))⟩
/-- 37: (*undertow/undertowref12.Ram).Byte -/
def h37 : Vm.Hint := ⟨[0, 1, 4, 5, 6, 7, 15, 37], [7], [], [[0, 0], [0, 0, 0, 0, 0, 0, 0], [0, 0], [0, 0, 0], [0, 0, 0, 0, 0, 0, 0, 1, 0], [0, 0, 0, 0, 0, 0, 0, 0, 0, 0, 0, 0, 0], [0, 0, 0, 0, 0, 0, 0, 0, 0, 0, 0, 0, 0, 0], [0, 0, 0, 0, 0, 0, 0, 0, 0]], [([2, 3], []), ([], []), ([], []), ([5, 7], [(true, 0)]), ([6], []), ([], []), ([0, 1, 4, 5, 7], [(true, 0)]), ([0, 1, 4, 6], [])]⟩
def ir_undertowref12_Ram_Bytel0 : C :=
 .seq (.seq (.reg [⟨.mv (.s 4), none⟩,
   ⟨.bin .geq (.r 0) (.c (.int .i64 0)), none⟩] [] [] [(6, 1, none)])
 (.cond (.s 6) (.skip)
  (.exit 0)))
 (.seq (.block 1 (.seq (.seq (.reg [⟨.mv (.s 0), none⟩,
    ⟨.nilck (.r 0), none⟩,
    ⟨.off 1 (.r 1), none⟩,
    ⟨.load 0 false 1 (.r 2), none⟩,
    ⟨.mv (.s 4), none⟩,
    ⟨.iaS 4 (.r 3) (.r 4), none⟩,
    ⟨.load 0 true 4 (.r 5), none⟩,
    ⟨.lalloc 0 [.int .i64 0, .int .i64 0, .int .i64 0, .int .u64 0], none⟩,
    ⟨.store 0 4 (.r 7) (.r 6), none⟩] [(true, 0)] [] [(5, 7, some 1)])
  (.drop [6] []))
  (.seq (.reg [⟨.off 1 (.s 5), none⟩,
    ⟨.load 0 false 1 (.r 0), none⟩,
    ⟨.mv (.s 1), none⟩,
    ⟨.bin .leq (.r 1) (.r 2), none⟩,
    ⟨.mv (.r 3), none⟩,
    ⟨.mv (.s 1), some (4, true)⟩,
    ⟨.off 1 (.s 5), some (4, true)⟩,
    ⟨.load 0 false 1 (.r 6), some (4, true)⟩,
    ⟨.off 2 (.s 5), some (4, true)⟩,
    ⟨.load 0 false 1 (.r 8), some (4, true)⟩,
    ⟨.bin .add (.r 7) (.r 9), some (4, true)⟩,
    ⟨.bin .lss (.r 5) (.r 10), some (4, true)⟩,
    ⟨.pick (.r 4) (.r 11) (.c (.bool false)), none⟩] [] [] [(7, 12, none)])
  (.cond (.s 7) (.seq (.seq (.reg [⟨.off 3 (.s 5), none⟩,
     ⟨.load 0 false 1 (.r 0), none⟩,
     ⟨.mv (.s 1), none⟩,
     ⟨.off 1 (.s 5), none⟩,
     ⟨.load 0 false 1 (.r 3), none⟩,
     ⟨.bin .sub (.r 2) (.r 4), none⟩,
     ⟨.bin .mul (.c (.int .i64 8)) (.r 5), none⟩,
     ⟨.i2i .u64 (.r 6), none⟩,
     ⟨.bin .shr (.r 1) (.r 7), none⟩,
     ⟨.i2i .u8 (.r 8), none⟩,
     ⟨.off 0 (.s 5), none⟩,
     ⟨.load 0 false 1 (.r 10), none⟩,
     ⟨.mv (.r 9), none⟩,
     ⟨.mv (.r 11), none⟩] [] [(1, 4), (1, 11), (4, 11)] [(2, 12, none), (3, 13, none)])
   (.drop [0, 1, 4, 5, 7] [(true, 0)]))
   (.ret))
   (.skip)))))
 (.seq (.reg [⟨.mv (.s 4), none⟩,
   ⟨.bin .sub (.r 0) (.c (.int .i64 1)), none⟩,
   ⟨.mv (.r 1), none⟩] [] [] [(4, 2, none)])
 (.drop [5, 7] [(true, 0)])))
def ir_undertowref12_Ram_Byte : Vm.Fn := ⟨[0, 1, 4, 5, 6, 7, 15, 37], 1, 0, [.slot 2, .slot 3],
 .seq (.seq (.reg [⟨.mv (.c (.int .u8 0)), none⟩,
   ⟨.mv (.c (.int .i64 0)), none⟩] [] [] [(2, 0, none), (3, 1, none)])
 (.drop [2, 3] []))
 (.seq (.seq (.reg [⟨.mv (.s 0), none⟩,
   ⟨.nilck (.r 0), none⟩,
   ⟨.off 1 (.r 1), none⟩,
   ⟨.load 0 false 1 (.r 2), none⟩,
   ⟨.len 1 (.r 3), none⟩,
   ⟨.bin .sub (.r 4) (.c (.int .i64 1)), none⟩,
   ⟨.mv (.r 5), none⟩] [] [] [(4, 6, none)])
 (.block 0 (.loop ir_undertowref12_Ram_Bytel0)))
 (.seq (.seq (.reg [⟨.mv (.s 0), none⟩,
   ⟨.nilck (.r 0), none⟩,
   ⟨.off 0 (.r 1), none⟩,
   ⟨.load 0 false 1 (.r 2), none⟩,
   ⟨.mv (.s 1), none⟩,
   ⟨.iaS 1 (.r 3) (.r 4), none⟩,
   ⟨.load 0 false 1 (.r 5), none⟩,
   ⟨.mv (.r 6), none⟩,
   ⟨.mv (.c (.int .i64 (-1))), none⟩] [] [] [(2, 7, none), (3, 8, none)])
 (.drop [0, 1, 4, 6] []))
 (.ret)))⟩
/-- 38: undertow/undertowref01.Of -/
def h38 : Vm.Hint := ⟨[0, 2, 3, 4, 5, 13], [], [], [[0], [0], [0], [0], [0, 0, 0, 0, 0, 0, 0, 0], [0, 0, 0], [0, 0, 0, 0, 0, 0, 0, 0, 0, 0], [0, 0, 0], [0, 0]], [([1], []), ([], []), ([], []), ([], []), ([], []), ([], []), ([5], []), ([], []), ([0, 2, 3, 4, 5], [])]⟩
def ir_undertowref01_Ofl0 : C :=
 .seq (.seq (.reg [⟨.mv (.s 4), none⟩,
   ⟨.mv (.s 0), none⟩,
   ⟨.len 1 (.r 1), none⟩,
   ⟨.bin .lss (.r 0) (.r 2), none⟩,
   ⟨.mv (.r 3), none⟩,
   ⟨.mv (.s 4), some (4, true)⟩,
   ⟨.bin .lss (.r 5) (.c (.int .i64 8)), some (4, true)⟩,
   ⟨.pick (.r 4) (.r 6) (.c (.bool false)), none⟩] [] [] [(5, 7, none)])
 (.cond (.s 5) (.skip)
  (.exit 0)))
 (.seq (.block 1 (.seq (.seq (.reg [⟨.mv (.s 2), none⟩,
    ⟨.mv (.s 3), none⟩,
    ⟨.mv (.s 0), none⟩,
    ⟨.mv (.s 4), none⟩,
    ⟨.iaS 1 (.r 2) (.r 3), none⟩,
    ⟨.load 0 false 1 (.r 4), none⟩,
    ⟨.i2i .u64 (.r 5), none⟩,
    ⟨.bin .mul (.r 1) (.r 6), none⟩,
    ⟨.bin .add (.r 0) (.r 7), none⟩,
    ⟨.mv (.r 8), none⟩] [] [] [(2, 9, none)])
  (.drop [5] []))
  (.reg [⟨.mv (.s 3), none⟩,
    ⟨.bin .mul (.r 0) (.c (.int .u64 256)), none⟩,
    ⟨.mv (.r 1), none⟩] [] [] [(3, 2, none)])))
 (.reg [⟨.mv (.s 4), none⟩,
   ⟨.bin .add (.r 0) (.c (.int .i64 1)), none⟩,
   ⟨.mv (.r 1), none⟩] [] [] [(4, 2, none)]))
def ir_undertowref01_Of : Vm.Fn := ⟨[0, 2, 3, 4, 5, 13], 0, 0, [.slot 1],
 .seq (.seq (.reg [⟨.mv (.c (.int .u64 0)), none⟩] [] [] [(1, 0, none)])
 (.drop [1] []))
 (.seq (.reg [⟨.mv (.c (.int .u64 0)), none⟩] [] [] [(2, 0, none)])
 (.seq (.reg [⟨.mv (.c (.int .u64 1)), none⟩] [] [] [(3, 0, none)])
 (.seq (.seq (.reg [⟨.mv (.c (.int .i64 0)), none⟩] [] [] [(4, 0, none)])
 (.block 0 (.loop ir_undertowref01_Ofl0)))
 (.seq (.seq (.reg [⟨.mv (.s 2), none⟩,
   ⟨.mv (.r 0), none⟩] [] [] [(1, 1, none)])
 (.drop [0, 2, 3, 4, 5] []))
 (.ret)))))⟩
/-- 39: undertow/undertowref01.SameBytes -/
def h39 : Vm.Hint := ⟨[0, 1, 4, 5, 10, 14, 25], [], [], [[0], [0, 0, 0, 0, 0], [0], [0], [0, 0, 0, 0], [0, 0, 0], [0, 0, 0, 0, 0, 0, 0, 0, 0], [0], [0]], [([2], []), ([], []), ([0, 1, 4], []), ([4], []), ([], []), ([6], []), ([5], []), ([0, 1, 3, 6], []), ([0, 1, 3, 5], [])]⟩
def ir_undertowref01_SameBytesl0 : C :=
 .seq (.seq (.reg [⟨.mv (.s 3), none⟩,
   ⟨.mv (.s 0), none⟩,
   ⟨.len 1 (.r 1), none⟩,
   ⟨.bin .lss (.r 0) (.r 2), none⟩] [] [] [(5, 3, none)])
 (.cond (.s 5) (.skip)
  (.exit 0)))
 (.seq (.block 1 (.seq (.seq (.reg [⟨.mv (.s 0), none⟩,
    ⟨.mv (.s 3), none⟩,
    ⟨.iaS 1 (.r 0) (.r 1), none⟩,
    ⟨.load 0 false 1 (.r 2), none⟩,
    ⟨.mv (.s 1), none⟩,
    ⟨.mv (.s 3), none⟩,
    ⟨.iaS 1 (.r 4) (.r 5), none⟩,
    ⟨.load 0 false 1 (.r 6), none⟩,
    ⟨.bin .neq (.r 3) (.r 7), none⟩] [] [(2, 6), (2, 7), (3, 6), (3, 7)] [(6, 8, none)])
  (.drop [5] []))
  (.cond (.s 6) (.seq (.seq (.reg [⟨.mv (.c (.bool false)), none⟩] [] [] [(2, 0, none)])
   (.drop [0, 1, 3, 6] []))
   (.ret))
   (.skip))))
 (.seq (.reg [⟨.mv (.s 3), none⟩,
   ⟨.bin .add (.r 0) (.c (.int .i64 1)), none⟩,
   ⟨.mv (.r 1), none⟩] [] [] [(3, 2, none)])
 (.drop [6] [])))
def ir_undertowref01_SameBytes : Vm.Fn := ⟨[0, 1, 4, 5, 10, 14, 25], 0, 0, [.slot 2],
 .seq (.seq (.reg [⟨.mv (.c (.bool false)), none⟩] [] [] [(2, 0, none)])
 (.drop [2] []))
 (.seq (.seq (.reg [⟨.mv (.s 0), none⟩,
   ⟨.len 1 (.r 0), none⟩,
   ⟨.mv (.s 1), none⟩,
   ⟨.len 1 (.r 2), none⟩,
   ⟨.bin .neq (.r 1) (.r 3), none⟩] [] [] [(4, 4, none)])
 (.cond (.s 4) (.seq (.seq (.reg [⟨.mv (.c (.bool false)), none⟩] [] [] [(2, 0, none)])
  (.drop [0, 1, 4] []))
  (.ret))
  (.skip)))
 (.seq (.seq (.seq (.reg [⟨.mv (.c (.int .i64 0)), none⟩] [] [] [(3, 0, none)])
 (.drop [4] []))
 (.block 0 (.loop ir_undertowref01_SameBytesl0)))
 (.seq (.seq (.reg [⟨.mv (.c (.bool true)), none⟩] [] [] [(2, 0, none)])
 (.drop [0, 1, 3, 5] []))
 (.ret))))⟩
/-- 40: (*undertow/undertowref12.Ram).Bytes -/
def h40 : Vm.Hint := ⟨[0, 2, 3, 4, 5, 13], [], [3], [[0], [1], [0], [0, 0, 0, 0, 0, 0, 0], [0, 0, 0], [0, 0, 0, 0, 0, 0, 0, 0], [0, 0, 1, 2, 0], [0, 0]], [([1], []), ([], []), ([], []), ([], []), ([], []), ([5], []), ([4], []), ([0, 2, 3, 5], [(false, 0)])]⟩
def ir_undertowref12_Ram_Bytesl0 : C :=
 .seq (.seq (.reg [⟨.mv (.s 3), none⟩,
   ⟨.mv (.s 0), none⟩,
   ⟨.nilck (.r 1), none⟩,
   ⟨.off 0 (.r 2), none⟩,
   ⟨.load 0 false 1 (.r 3), none⟩,
   ⟨.len 1 (.r 4), none⟩,
   ⟨.bin .lss (.r 0) (.r 5), none⟩] [] [] [(5, 6, none)])
 (.cond (.s 5) (.skip)
  (.exit 0)))
 (.seq (.block 1 (.seq (.seq (.reg [⟨.mv (.s 0), none⟩,
    ⟨.mv (.s 3), none⟩,
    ⟨.call .val n_undertowref12_Ram_Byte [(.r 0), (.r 1)], none⟩,
    ⟨.mv (.r 2), none⟩,
    ⟨.ext (.r 3) 0, none⟩,
    ⟨.ext (.r 3) 1, none⟩,
    ⟨.mv (.r 4), none⟩,
    ⟨.mv (.r 5), none⟩] [] [] [(4, 6, none)])
  (.drop [5] []))
  (.seq (.reg [⟨.mv (.s 2), none⟩,
    ⟨.mv (.s 4), none⟩,
    ⟨.lit 1 1 [[.int .u8 0]] [(0, (.r 1))], none⟩,
    ⟨.app 2 1 1 (.r 0) (.r 2), none⟩,
    ⟨.mv (.r 3), none⟩] [] [] [(2, 4, some 0)])
  (.drop [4] []))))
 (.reg [⟨.mv (.s 3), none⟩,
   ⟨.bin .add (.r 0) (.c (.int .i64 1)), none⟩,
   ⟨.mv (.r 1), none⟩] [] [] [(3, 2, none)]))
def ir_undertowref12_Ram_Bytes : Vm.Fn := ⟨[0, 2, 3, 4, 5, 13], 0, 1, [.slot 1],
 .seq (.seq (.reg [⟨.mv (.c (.nils)), none⟩] [] [] [(1, 0, none)])
 (.drop [1] []))
 (.seq (.reg [⟨.onil 0, none⟩] [(false, 0)] [] [(2, 0, some 0)])
 (.seq (.seq (.reg [⟨.mv (.c (.int .i64 0)), none⟩] [] [] [(3, 0, none)])
 (.block 0 (.loop ir_undertowref12_Ram_Bytesl0)))
 (.seq (.seq (.reg [⟨.mv (.s 2), none⟩,
   ⟨.mv (.r 0), none⟩] [] [] [(1, 1, none)])
 (.drop [0, 2, 3, 5] [(false, 0)]))
 (.ret))))⟩
/-- 41: (*undertow/undertowref12.Ram).Tags -/
def h41 : Vm.Hint := ⟨[0, 2, 3, 4, 6, 13], [], [3], [[0], [1], [0], [0, 0, 0, 0, 0, 0, 0], [0, 0, 0], [0, 0, 0, 0, 0, 0, 0, 0], [0, 0, 1, 2, 0], [0, 0]], [([1], []), ([], []), ([], []), ([], []), ([], []), ([5], []), ([4], []), ([0, 2, 3, 5], [(false, 0)])]⟩
def ir_undertowref12_Ram_Tagsl0 : C :=
 .seq (.seq (.reg [⟨.mv (.s 3), none⟩,
   ⟨.mv (.s 0), none⟩,
   ⟨.nilck (.r 1), none⟩,
   ⟨.off 0 (.r 2), none⟩,
   ⟨.load 0 false 1 (.r 3), none⟩,
   ⟨.len 1 (.r 4), none⟩,
   ⟨.bin .lss (.r 0) (.r 5), none⟩] [] [] [(5, 6, none)])
 (.cond (.s 5) (.skip)
  (.exit 0)))
 (.seq (.block 1 (.seq (.seq (.reg [⟨.mv (.s 0), none⟩,
    ⟨.mv (.s 3), none⟩,
    ⟨.call .val n_undertowref12_Ram_Byte [(.r 0), (.r 1)], none⟩,
    ⟨.mv (.r 2), none⟩,
    ⟨.ext (.r 3) 0, none⟩,
    ⟨.ext (.r 3) 1, none⟩,
    ⟨.mv (.r 4), none⟩,
    ⟨.mv (.r 5), none⟩] [] [] [(4, 7, none)])
  (.drop [5] []))
  (.seq (.reg [⟨.mv (.s 2), none⟩,
    ⟨.mv (.s 4), none⟩,
    ⟨.lit 1 1 [[.int .i64 0]] [(0, (.r 1))], none⟩,
    ⟨.app 2 1 8 (.r 0) (.r 2), none⟩,
    ⟨.mv (.r 3), none⟩] [] [] [(2, 4, some 0)])
  (.drop [4] []))))
 (.reg [⟨.mv (.s 3), none⟩,
   ⟨.bin .add (.r 0) (.c (.int .i64 1)), none⟩,
   ⟨.mv (.r 1), none⟩] [] [] [(3, 2, none)]))
def ir_undertowref12_Ram_Tags : Vm.Fn := ⟨[0, 2, 3, 4, 6, 13], 0, 1, [.slot 1],
 .seq (.seq (.reg [⟨.mv (.c (.nils)), none⟩] [] [] [(1, 0, none)])
 (.drop [1] []))
 (.seq (.reg [⟨.onil 0, none⟩] [(false, 0)] [] [(2, 0, some 0)])
 (.seq (.seq (.reg [⟨.mv (.c (.int .i64 0)), none⟩] [] [] [(3, 0, none)])
 (.block 0 (.loop ir_undertowref12_Ram_Tagsl0)))
 (.seq (.seq (.reg [⟨.mv (.s 2), none⟩,
   ⟨.mv (.r 0), none⟩] [] [] [(1, 1, none)])
 (.drop [0, 2, 3, 5] [(false, 0)]))
 (.ret))))⟩
/-- 42: undertow/undertowref12.SameWrites -/
def h42 : Vm.Hint := ⟨[0, 1, 4, 5, 10, 14, 25], [], [], [[0], [0, 0, 0, 0, 0], [0], [0], [0, 0, 0, 0], [0, 0, 0], [0, 0, 0, 0, 0, 0, 0, 0, 0], [0], [0]], [([2], []), ([], []), ([0, 1, 4], []), ([4], []), ([], []), ([6], []), ([5], []), ([0, 1, 3, 6], []), ([0, 1, 3, 5], [])]⟩
def ir_undertowref12_SameWritesl0 : C :=
 .seq (.seq (.reg [⟨.mv (.s 3), none⟩,
   ⟨.mv (.s 0), none⟩,
   ⟨.len 1 (.r 1), none⟩,
   ⟨.bin .lss (.r 0) (.r 2), none⟩] [] [] [(5, 3, none)])
 (.cond (.s 5) (.skip)
  (.exit 0)))
 (.seq (.block 1 (.seq (.seq (.reg [⟨.mv (.s 0), none⟩,
    ⟨.mv (.s 3), none⟩,
    ⟨.iaS 4 (.r 0) (.r 1), none⟩,
    ⟨.load 0 true 4 (.r 2), none⟩,
    ⟨.mv (.s 1), none⟩,
    ⟨.mv (.s 3), none⟩,
    ⟨.iaS 4 (.r 4) (.r 5), none⟩,
    ⟨.load 0 true 4 (.r 6), none⟩,
    ⟨.eqa true [.int, .int, .int, .int] (.r 3) (.r 7), none⟩] [] [(2, 6), (2, 7), (3, 6), (3, 7)] [(6, 8, none)])
  (.drop [5] []))
  (.cond (.s 6) (.seq (.seq (.reg [⟨.mv (.c (.bool false)), none⟩] [] [] [(2, 0, none)])
   (.drop [0, 1, 3, 6] []))
   (.ret))
   (.skip))))
 (.seq (.reg [⟨.mv (.s 3), none⟩,
   ⟨.bin .add (.r 0) (.c (.int .i64 1)), none⟩,
   ⟨.mv (.r 1), none⟩] [] [] [(3, 2, none)])
 (.drop [6] [])))
def ir_undertowref12_SameWrites : Vm.Fn := ⟨[0, 1, 4, 5, 10, 14, 25], 0, 0, [.slot 2],
 .seq (.seq (.reg [⟨.mv (.c (.bool false)), none⟩] [] [] [(2, 0, none)])
 (.drop [2] []))
 (.seq (.seq (.reg [⟨.mv (.s 0), none⟩,
   ⟨.len 1 (.r 0), none⟩,
   ⟨.mv (.s 1), none⟩,
   ⟨.len 1 (.r 2), none⟩,
   ⟨.bin .neq (.r 1) (.r 3), none⟩] [] [] [(4, 4, none)])
 (.cond (.s 4) (.seq (.seq (.reg [⟨.mv (.c (.bool false)), none⟩] [] [] [(2, 0, none)])
  (.drop [0, 1, 4] []))
  (.ret))
  (.skip)))
 (.seq (.seq (.seq (.reg [⟨.mv (.c (.int .i64 0)), none⟩] [] [] [(3, 0, none)])
 (.drop [4] []))
 (.block 0 (.loop ir_undertowref12_SameWritesl0)))
 (.seq (.seq (.reg [⟨.mv (.c (.bool true)), none⟩] [] [] [(2, 0, none)])
 (.drop [0, 1, 3, 5] []))
 (.ret))))⟩
/-- 43: slices.Clone[[]undertow/api.Write,undertow/api.Write] -/
def h43 : Vm.Hint := ⟨[0, 2, 4], [], [2], [[1], [0, 0], [1], [0, 0, 3, 0]], [([1], [(false, 0)]), ([], []), ([0, 2], []), ([0, 2], [])]⟩
def ir_slices_Clone_api_Write_api_Write : Vm.Fn := ⟨[0, 2, 4], 0, 1, [.slot 1],
 .seq (.seq (.reg [⟨.onil 0, none⟩] [(false, 0)] [] [(1, 0, some 0)])
 (.drop [1] [(false, 0)]))
 (.seq (.seq (.reg [⟨.mv (.s 0), none⟩,
   ⟨.eqn .slice false (.r 0) (.c (.nils)), none⟩] [] [] [(2, 1, none)])
 (.cond (.s 2) (.seq (.seq (.reg [⟨.onil 0, none⟩] [(false, 0)] [] [(1, 0, some 0)])
  (.drop [0, 2] []))
  (.ret))
  (.skip)))
 (.seq (.seq (.reg [⟨.lit 0 4 [] [], none⟩,
   ⟨.mv (.s 0), none⟩,
   ⟨.appR 0 4 32 (.r 0) (.r 1), none⟩,
   ⟨.mv (.r 2), none⟩] [(false, 0)] [] [(1, 3, some 0)])
 (.drop [0, 2] []))
 (.ret)))⟩
/-- 44: undertow/word.Aligned -/
def h44 : Vm.Hint := ⟨[0, 1, 4, 5, 6], [], [], [[0], [0], [0, 0], [0, 0], [0, 0], [0, 0], [0, 0, 0, 0, 0, 0, 0, 0, 0], [0]], []⟩
def ir_word_Aligned : Vm.Fn := ⟨[0, 1, 4, 5, 6], 0, 0, [.slot 2],
 .seq (.reg [⟨.mv (.c (.bool false)), none⟩] [] [] [(2, 0, none)])
 (.seq (.seq (.reg [⟨.mv (.s 1), none⟩] [] [] [(3, 0, none)])
 (.block 0 (.seq (.seq (.reg [⟨.bin .eql (.s 3) (.c (.int .i64 1)), none⟩,
    ⟨.mv (.r 0), none⟩] [] [] [(4, 1, none)])
  (.cond (.s 4) (.skip)
   (.seq (.reg [⟨.bin .eql (.s 3) (.c (.int .i64 2)), none⟩,
     ⟨.mv (.r 0), none⟩] [] [] [(4, 1, none)])
   (.cond (.s 4) (.skip)
    (.seq (.reg [⟨.bin .eql (.s 3) (.c (.int .i64 4)), none⟩,
      ⟨.mv (.r 0), none⟩] [] [] [(4, 1, none)])
    (.cond (.s 4) (.skip)
     (.reg [⟨.bin .eql (.s 3) (.c (.int .i64 8)), none⟩,
       ⟨.mv (.r 0), none⟩] [] [] [(4, 1, none)])))))))
  (.cond (.s 4) (.seq (.reg [⟨.mv (.s 0), none⟩,
     ⟨.bin .geq (.r 0) (.c (.int .i64 0)), none⟩,
     ⟨.mv (.r 1), none⟩,
     ⟨.mv (.s 0), some (2, true)⟩,
     ⟨.mv (.s 1), some (2, true)⟩,
     ⟨.bin .rem (.r 3) (.r 4), some (2, true)⟩,
     ⟨.bin .eql (.r 5) (.c (.int .i64 0)), some (2, true)⟩,
     ⟨.pick (.r 2) (.r 6) (.c (.bool false)), none⟩,
     ⟨.mv (.r 7), none⟩] [] [] [(2, 8, none)])
   (.ret))
   (.skip)))))
 (.seq (.reg [⟨.mv (.c (.bool false)), none⟩] [] [] [(2, 0, none)])
 (.ret)))⟩
/-- 45: undertow/word.isRange -/
def h45 : Vm.Hint := ⟨[0, 1, 4], [], [], [[0], [0, 0, 0, 0, 0, 0, 0, 0, 0, 0, 0, 0, 0, 0, 0]], []⟩
def ir_word_isRange : Vm.Fn := ⟨[0, 1, 4], 0, 0, [.slot 2],
 .seq (.reg [⟨.mv (.c (.bool false)), none⟩] [] [] [(2, 0, none)])
 (.seq (.reg [⟨.mv (.s 0), none⟩,
   ⟨.bin .geq (.r 0) (.c (.int .i64 0)), none⟩,
   ⟨.mv (.r 1), none⟩,
   ⟨.mv (.s 0), some (2, true)⟩,
   ⟨.bin .leq (.r 3) (.c (.int .i64 1099511627776)), some (2, true)⟩,
   ⟨.pick (.r 2) (.r 4) (.c (.bool false)), none⟩,
   ⟨.mv (.r 5), none⟩,
   ⟨.mv (.s 1), some (6, true)⟩,
   ⟨.bin .geq (.r 7) (.c (.int .i64 1)), some (6, true)⟩,
   ⟨.pick (.r 6) (.r 8) (.c (.bool false)), none⟩,
   ⟨.mv (.r 9), none⟩,
   ⟨.mv (.s 1), some (10, true)⟩,
   ⟨.bin .leq (.r 11) (.c (.int .i64 8)), some (10, true)⟩,
   ⟨.pick (.r 10) (.r 12) (.c (.bool false)), none⟩,
   ⟨.mv (.r 13), none⟩] [] [] [(2, 14, none)])
 (.ret))⟩
def hints (f : Nat) : Option Vm.Hint := if f < 24 then (if f < 13 then (if f < 8 then (if f < 5 then (if f < 4 then (if f = 3 then some h3 else none) else (if f = 4 then some h4 else none)) else (if f < 6 then (if f = 5 then some h5 else none) else (if f < 7 then (if f = 6 then some h6 else none) else (if f = 7 then some h7 else none)))) else (if f < 10 then (if f < 9 then (if f = 8 then some h8 else none) else (if f = 9 then some h9 else none)) else (if f < 11 then (if f = 10 then some h10 else none) else (if f < 12 then (if f = 11 then some h11 else none) else (if f = 12 then some h12 else none))))) else (if f < 18 then (if f < 15 then (if f < 14 then (if f = 13 then some h13 else none) else (if f = 14 then some h14 else none)) else (if f < 16 then (if f = 15 then some h15 else none) else (if f < 17 then (if f = 16 then some h16 else none) else (if f = 17 then some h17 else none)))) else (if f < 21 then (if f < 19 then (if f = 18 then some h18 else none) else (if f < 20 then (if f = 19 then some h19 else none) else (if f = 20 then some h20 else none))) else (if f < 22 then (if f = 21 then some h21 else none) else (if f < 23 then (if f = 22 then some h22 else none) else (if f = 23 then some h23 else none)))))) else (if f < 35 then (if f < 29 then (if f < 26 then (if f < 25 then (if f = 24 then some h24 else none) else (if f = 25 then some h25 else none)) else (if f < 27 then (if f = 26 then some h26 else none) else (if f < 28 then (if f = 27 then some h27 else none) else (if f = 28 then some h28 else none)))) else (if f < 32 then (if f < 30 then (if f = 29 then some h29 else none) else (if f < 31 then (if f = 30 then some h30 else none) else (if f = 31 then some h31 else none))) else (if f < 33 then (if f = 32 then some h32 else none) else (if f < 34 then (if f = 33 then some h33 else none) else (if f = 34 then some h34 else none))))) else (if f < 40 then (if f < 37 then (if f < 36 then (if f = 35 then some h35 else none) else (if f = 36 then some h36 else none)) else (if f < 38 then (if f = 37 then some h37 else none) else (if f < 39 then (if f = 38 then some h38 else none) else (if f = 39 then some h39 else none)))) else (if f < 43 then (if f < 41 then (if f = 40 then some h40 else none) else (if f < 42 then (if f = 41 then some h41 else none) else (if f = 42 then some h42 else none))) else (if f < 44 then (if f = 43 then some h43 else none) else (if f < 45 then (if f = 44 then some h44 else none) else (if f = 45 then some h45 else none))))))
noncomputable abbrev pg : Vm.Pg := pgOf Go.Proofs.Try.prog hints
theorem fn_undertowlaw12_RamHeld : pg.fn 3 = some ir_undertowlaw12_RamHeld := by kernel_rfl
theorem fn_undertowlaw12_RamPlays : pg.fn 4 = some ir_undertowlaw12_RamPlays := by kernel_rfl
theorem fn_undertowlaw12_RamNone : pg.fn 5 = some ir_undertowlaw12_RamNone := by kernel_rfl
theorem fn_undertowlaw12_RamLast : pg.fn 6 = some ir_undertowlaw12_RamLast := by kernel_rfl
theorem fn_undertowlaw12_alive : pg.fn 7 = some ir_undertowlaw12_alive := by kernel_rfl
theorem fn_ram_New : pg.fn 8 = some ir_ram_New := by kernel_rfl
theorem fn_ram_Ram_Reserve : pg.fn 9 = some ir_ram_Ram_Reserve := by kernel_rfl
theorem fn_ram_Ram_Store : pg.fn 10 = some ir_ram_Ram_Store := by kernel_rfl
theorem fn_undertowref01_Overlap : pg.fn 11 = some ir_undertowref01_Overlap := by kernel_rfl
theorem fn_ram_Ram_Held : pg.fn 12 = some ir_ram_Ram_Held := by kernel_rfl
theorem fn_undertowref12_New : pg.fn 13 = some ir_undertowref12_New := by kernel_rfl
theorem fn_undertowref12_Ram_Store : pg.fn 14 = some ir_undertowref12_Ram_Store := by kernel_rfl
theorem fn_undertowref12_Ram_Reserve : pg.fn 15 = some ir_undertowref12_Ram_Reserve := by kernel_rfl
theorem fn_ram_Ram_Drop : pg.fn 16 = some ir_ram_Ram_Drop := by kernel_rfl
theorem fn_undertowref12_Ram_Drop : pg.fn 17 = some ir_undertowref12_Ram_Drop := by kernel_rfl
theorem fn_ram_Ram_Load : pg.fn 18 = some ir_ram_Ram_Load := by kernel_rfl
theorem fn_undertowref12_Ram_May : pg.fn 19 = some ir_undertowref12_Ram_May := by kernel_rfl
theorem fn_undertowref12_Ram_Load : pg.fn 20 = some ir_undertowref12_Ram_Load := by kernel_rfl
theorem fn_undertowref02_SameInts : pg.fn 21 = some ir_undertowref02_SameInts := by kernel_rfl
theorem fn_undertowref12_Ram_Has : pg.fn 22 = some ir_undertowref12_Ram_Has := by kernel_rfl
theorem fn_undertowlaw12_same : pg.fn 23 = some ir_undertowlaw12_same := by kernel_rfl
theorem fn_ram_Ram_Bytes : pg.fn 24 = some ir_ram_Ram_Bytes := by kernel_rfl
theorem fn_ram_Ram_Tags : pg.fn 25 = some ir_ram_Ram_Tags := by kernel_rfl
theorem fn_ram_Ram_Log : pg.fn 26 = some ir_ram_Ram_Log := by kernel_rfl
theorem fn_slices_Clone_byte_byte : pg.fn 27 = some ir_slices_Clone_byte_byte := by kernel_rfl
theorem fn_ram_Ram_may : pg.fn 28 = some ir_ram_Ram_may := by kernel_rfl
theorem fn_ram_isHart : pg.fn 29 = some ir_ram_isHart := by kernel_rfl
theorem fn_word_Zext : pg.fn 30 = some ir_word_Zext := by kernel_rfl
theorem fn_word_Bytes : pg.fn 31 = some ir_word_Bytes := by kernel_rfl
theorem fn_word_Overlap : pg.fn 32 = some ir_word_Overlap := by kernel_rfl
theorem fn_undertowref01_Zext : pg.fn 33 = some ir_undertowref01_Zext := by kernel_rfl
theorem fn_word_Of : pg.fn 34 = some ir_word_Of := by kernel_rfl
theorem fn_slices_Clone_int_int : pg.fn 35 = some ir_slices_Clone_int_int := by kernel_rfl
theorem fn_undertowref01_Aligned : pg.fn 36 = some ir_undertowref01_Aligned := by kernel_rfl
theorem fn_undertowref12_Ram_Byte : pg.fn 37 = some ir_undertowref12_Ram_Byte := by kernel_rfl
theorem fn_undertowref01_Of : pg.fn 38 = some ir_undertowref01_Of := by kernel_rfl
theorem fn_undertowref01_SameBytes : pg.fn 39 = some ir_undertowref01_SameBytes := by kernel_rfl
theorem fn_undertowref12_Ram_Bytes : pg.fn 40 = some ir_undertowref12_Ram_Bytes := by kernel_rfl
theorem fn_undertowref12_Ram_Tags : pg.fn 41 = some ir_undertowref12_Ram_Tags := by kernel_rfl
theorem fn_undertowref12_SameWrites : pg.fn 42 = some ir_undertowref12_SameWrites := by kernel_rfl
theorem fn_slices_Clone_api_Write_api_Write : pg.fn 43 = some ir_slices_Clone_api_Write_api_Write := by kernel_rfl
theorem fn_word_Aligned : pg.fn 44 = some ir_word_Aligned := by kernel_rfl
theorem fn_word_isRange : pg.fn 45 = some ir_word_isRange := by kernel_rfl
def irL : List (Nat × Vm.Fn) := [(3, ir_undertowlaw12_RamHeld), (4, ir_undertowlaw12_RamPlays), (5, ir_undertowlaw12_RamNone), (6, ir_undertowlaw12_RamLast), (7, ir_undertowlaw12_alive), (8, ir_ram_New), (9, ir_ram_Ram_Reserve), (10, ir_ram_Ram_Store), (11, ir_undertowref01_Overlap), (12, ir_ram_Ram_Held), (13, ir_undertowref12_New), (14, ir_undertowref12_Ram_Store), (15, ir_undertowref12_Ram_Reserve), (16, ir_ram_Ram_Drop), (17, ir_undertowref12_Ram_Drop), (18, ir_ram_Ram_Load), (19, ir_undertowref12_Ram_May), (20, ir_undertowref12_Ram_Load), (21, ir_undertowref02_SameInts), (22, ir_undertowref12_Ram_Has), (23, ir_undertowlaw12_same), (24, ir_ram_Ram_Bytes), (25, ir_ram_Ram_Tags), (26, ir_ram_Ram_Log), (27, ir_slices_Clone_byte_byte), (28, ir_ram_Ram_may), (29, ir_ram_isHart), (30, ir_word_Zext), (31, ir_word_Bytes), (32, ir_word_Overlap), (33, ir_undertowref01_Zext), (34, ir_word_Of), (35, ir_slices_Clone_int_int), (36, ir_undertowref01_Aligned), (37, ir_undertowref12_Ram_Byte), (38, ir_undertowref01_Of), (39, ir_undertowref01_SameBytes), (40, ir_undertowref12_Ram_Bytes), (41, ir_undertowref12_Ram_Tags), (42, ir_undertowref12_SameWrites), (43, ir_slices_Clone_api_Write_api_Write), (44, ir_word_Aligned), (45, ir_word_isRange)]
theorem irL_ok : ∀ q ∈ irL, pg.fn q.1 = some q.2 := by
  simp only [irL, List.forall_mem_cons]
  exact ⟨fn_undertowlaw12_RamHeld, fn_undertowlaw12_RamPlays, fn_undertowlaw12_RamNone, fn_undertowlaw12_RamLast, fn_undertowlaw12_alive, fn_ram_New, fn_ram_Ram_Reserve, fn_ram_Ram_Store, fn_undertowref01_Overlap, fn_ram_Ram_Held, fn_undertowref12_New, fn_undertowref12_Ram_Store, fn_undertowref12_Ram_Reserve, fn_ram_Ram_Drop, fn_undertowref12_Ram_Drop, fn_ram_Ram_Load, fn_undertowref12_Ram_May, fn_undertowref12_Ram_Load, fn_undertowref02_SameInts, fn_undertowref12_Ram_Has, fn_undertowlaw12_same, fn_ram_Ram_Bytes, fn_ram_Ram_Tags, fn_ram_Ram_Log, fn_slices_Clone_byte_byte, fn_ram_Ram_may, fn_ram_isHart, fn_word_Zext, fn_word_Bytes, fn_word_Overlap, fn_undertowref01_Zext, fn_word_Of, fn_slices_Clone_int_int, fn_undertowref01_Aligned, fn_undertowref12_Ram_Byte, fn_undertowref01_Of, fn_undertowref01_SameBytes, fn_undertowref12_Ram_Bytes, fn_undertowref12_Ram_Tags, fn_undertowref12_SameWrites, fn_slices_Clone_api_Write_api_Write, fn_word_Aligned, fn_word_isRange, by simp⟩
end Go.Proofs.Ytbloiihagbcfpaa
